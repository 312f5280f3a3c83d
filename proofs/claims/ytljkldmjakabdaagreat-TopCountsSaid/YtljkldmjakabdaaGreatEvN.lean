/- TopCounts by reckoning: what acts on memory does as reckoned. -/
import Derived.Test.YtljkldmjakabdaaGreatEvM
import Derived.ArgAppend
namespace Go.Proofs.YtljkldmjakabdaaGreat.Ev
open Go

variable {P : Program}

section acts
variable {c : Cx} {tm : T AV} {a : Act} {o : Oper} {v : AV} {h h' : Hp} {w : World} {nx : Nat}

theorem act_store (ht : TmR c tm a.tmps) (r : R c h.get w) (hbd : Bd c nx) {t : Nat} {x y : Operand} (ho : o.op = .store t x y) {b off : Nat} (hx : opnd tm x = some (.at (.ptr b off))) {u : AV} (hy : opnd tm y = some u) {l : List At} (hl : cellsOf u = some l) (hs : tSize P t = some l.length) (hw : wrN h b off l = some h') :
    Acts P c h nx o a w (.tup []) h' nx := by
  obtain ⟨p, hp, e1⟩ : ∃ p, c b = some p ∧ a.eval x = .pointer (some ⟨p.b, p.o + off, none⟩) := opnd_sound ht hx
  have hr := cellsOf_sound (opnd_sound ht hy) hl
  obtain ⟨hmv, h1, h2⟩ := Mv.store r hr hw hp
  refine ⟨c, _, hmv, .refl c nx, .inr ⟨?_, rfl⟩⟩
  have hlen := hr.length
  simp only [Array.length_toList] at hlen
  have hst := run_storeCells_cells (P := P) p.b (p.o + off) (a.eval y).cells.toList 0 w (by simpa using h1) (by simpa using h2) hr.one'
  simp only [Nat.add_zero] at hst
  have hne : ¬ ((a.eval y).cells.size ≠ l.length) := by omega
  simp only [execOp, ho, Instr.storeAt, e1, Instr.sureAddr, storeVar, Sem.run_bind, Sem.run_pure, run_size hs, Result.andThen_ok, hne, if_false, hst]

theorem heap_freeze {w : World} {b m : Nat} {cs : Array Value} {e : TypeId} {fr : Nat × Nat} (hb : w.heap[b]? = some (.cells cs e fr)) (x : Nat) :
    (w.freeze ⟨b, m, none⟩ 1).heap[x]? = if x = b then some (.cells cs e (if fr.1 == fr.2 then (m, m + 1) else (min fr.1 m, max fr.2 (m + 1)))) else w.heap[x]? := by
  obtain ⟨lo, hi⟩ := fr
  simp only [World.freeze, Nat.one_ne_zero, if_false, Array.getElem?_modify]
  by_cases hx : x = b
  · subst hx; simp [hb]
  · rw [if_neg (fun e => hx e.symm), if_neg hx]

theorem act_mark (ht : TmR c tm a.tmps) (r : R c h.get w) (hbd : Bd c nx) {s e : Nat} {x : Operand} (ho : o.op = .convert s s x) (hu : P.underlying s = some (.slice e)) (he : P.underlying e = some (.int .u8)) {b off l k z : Nat} {ex : Bool} (hx : opnd tm x = some (.at (.slc b off l k z ex)))
    {ct : T At} {n : Nat} {ty : Ty} (hb : h.get b = some (.cells ct n ty)) : Acts P c h nx o a w (.at (.slc b off l k z ex)) (h.set b (.cells ct n (weak ty))) nx := by
  obtain ⟨p, hp, o', k', e1, h3⟩ : ∃ p, c b = some p ∧ ∃ o' k', a.eval x = .slice (some ⟨p.b, o', none⟩) l k' ∧ (k' ≠ 0 → o' = p.o + off) ∧ l ≤ k ∧ k ≤ k' ∧ (ex = true → k' = k) ∧ p.o + off + k' * z ≤ p.n := opnd_sound ht hx
  obtain ⟨q, cs, el, fr, hq, g1, g2, g3, g4, g5, g6⟩ := r.cells hb
  rw [hp] at hq; cases hq
  have hfr := heap_freeze (m := cs.size) g1
  have hmv : Mv c h.get w c (h.set b (.cells ct n (weak ty))).get (w.freeze ⟨p.b, cs.size, none⟩ 1) := by
    refine Mv.upd r hb hp (B' := .cells ct n (weak ty)) ⟨cs, el, _, by rw [hfr, if_pos rfl], g2, g3, ?_, g5, ?_⟩ (fun y hy => by rw [hfr, if_neg hy]) (by simp [World.freeze]) (get_set_cases _ _ _)
    · obtain ⟨lo, hi⟩ := fr
      simp only at g4 ⊢
      by_cases hlo : lo = hi
      · subst hlo; simp
      · have hne : (lo == hi) = false := by simpa using hlo
        simp only [hne, Bool.false_eq_true, if_false]
        omega
    · cases ty with
      | no => exact trivial
      | row x => exact g6
      | var x => exact ⟨g6.1, g6.2.1⟩
  refine ⟨c, _, hmv, .refl c nx, .inl ⟨a.eval x, ?_, opnd_sound ht hx⟩⟩
  have hsh : ∀ w', w'.heap[p.b]? = some (.cells cs el fr) → (markStringish ⟨p.b, o', none⟩).run P w' = .ok () (w'.freeze ⟨p.b, cs.size, none⟩ 1) := by
    intro w' hw'
    simp [markStringish, shape, freeze, Sem.run, World.shape?, hw', Result.andThen]
  simp only [execOp, ho, e1, convert, Sem.run_bind, run_underlying hu, run_underlying he, Result.andThen_ok, beq_self_eq_true, hsh w g1]
  rfl

theorem act_mapUpdate (ht : TmR c tm a.tmps) (r : R c h.get w) (hbd : Bd c nx) {t kt e : Nat} {m k y : Operand} (ho : o.op = .mapUpdate t m k y) (hu : P.underlying t = some (.map kt e)) {b : Nat} {kv : AV} {z : At} (hm : opnd tm m = some (.at (.mp b))) (hk : opnd tm k = some kv) (hy : opnd tm y = some (.at z)) (hok : keyOk P kt kv = true)
    {l l' : List (List At × Bool × At)} (hb : h.get b = some (.map l)) {kc : List At} (hc : cellsOf kv = some kc) {res : Option (Nat × At)} (hf : findA kc (isAggV kv) l 0 = some res)
    (hl : (∃ i u k' g w', res = some (i, u) ∧ l[i]? = some (k', g, w') ∧ l' = setNth l i (k', g, z)) ∨ (res = none ∧ l' = l ++ [(kc, isAggV kv, z)])) :
    Acts P c h nx o a w (.tup []) (h.set b (.map l')) nx := by
  obtain ⟨p, hp, e1⟩ : ∃ p, c b = some p ∧ a.eval m = .map (some p.b) := opnd_sound ht hm
  obtain ⟨q, es, ck, hq, g1, g2, g3, g4⟩ := r.map hb
  rw [hp] at hq; cases hq
  have hkx := opnd_sound ht hk
  have hyz : AtR c z (a.eval y) := opnd_sound ht hy
  obtain ⟨r', hr1, hr2⟩ := find_sound hok hkx hc g2 hf w
  have hck := run_checkKey2 (P := P) hok hkx false w
  rcases hl with ⟨i, u, k', g, w', rfl, hli, rfl⟩ | ⟨rfl, rfl⟩
  · obtain ⟨ent, q1, q2, rfl, q3⟩ := hr2
    have q1' : es[i]? = some ent := by simpa using q1
    have hst := stays (P := P) hok hkx w
    have hmod : (es.modify i fun e => { e with key := a.eval k, val := a.eval y }).size = es.size := by simp
    have hmodl : (es.modify i fun e => { e with key := a.eval k, val := a.eval y }).toList = es.toList.set i { ent with key := a.eval k, val := a.eval y } := by
      apply List.ext_getElem?
      intro j
      rw [Array.getElem?_toList, Array.getElem?_modify, List.getElem?_set]
      by_cases hj : i = j
      · subst hj
        obtain ⟨hlt, heq⟩ := Array.getElem?_eq_some_iff.1 q1'
        simp [hlt, heq]
      · simp [hj]
    have hmv := Mv.setMap (es := es.modify i fun e => { e with key := a.eval k, val := a.eval y }) r hb (l' := setNth l i (k', g, z)) hp (by
      rw [hmodl]
      refine g2.setNth i _ _ ?_
      obtain ⟨e', he', hk1, hk2⟩ := g2.get i _ hli
      rw [q1] at he'; cases he'
      exact ⟨by rw [← q3]; exact hk1, hyz⟩) (by
      intro j x hj
      have : (es.modify i fun e => { e with key := a.eval k, val := a.eval y })[j]? = some x := hj
      rw [Array.getElem?_modify] at this
      by_cases hij : i = j
      · subst hij; simp [q1'] at this; rw [← this]; exact g4 i ent q1'
      · simp [hij] at this; exact g4 j x this)
    refine ⟨c, _, hmv, .refl c nx, .inr ⟨?_, rfl⟩⟩
    have hkey : ((es[i]?).map (·.key)).getD (a.eval k) = a.eval k := by simp [q1', q3]
    simp only [execOp, ho, Instr.mapUpdate, e1, Sem.run_bind, run_underlying hu, Result.andThen_ok, MapKept.run_getObj_map g1, hck, hr1, hkey, hst, MapKept.run_setObj_map _ g1, g3, hmod]
    rfl
  · have : r' = none := hr2
    subst this
    have hmv := Mv.setMap (es := es.push { key := a.eval k, val := a.eval y, born := es.size }) r hb (l' := l ++ [(kc, isAggV kv, z)]) hp (by
      rw [Array.toList_push]
      refine g2.append (.cons ⟨⟨fun hg => ?_, fun hg => ?_⟩, hyz⟩ .nil)
      · cases kv with
        | agg l => obtain ⟨cs, q1, q2⟩ := hkx; simp [cellsOf] at hc; subst hc; exact ⟨cs, q1, q2⟩
        | _ => simp [isAggV] at hg
      · cases kv with
        | «at» x => simp [cellsOf] at hc; subst hc; exact ⟨x, rfl, hkx⟩
        | agg l => simp [isAggV] at hg
        | tup l => simp [cellsOf] at hc) (by
      intro j x hj
      have hj' : (es.push { key := a.eval k, val := a.eval y, born := es.size })[j]? = some x := hj
      rw [Array.getElem?_push] at hj'
      by_cases hjs : j = es.size
      · subst hjs; simp at hj'; rw [← hj']
      · rw [if_neg hjs] at hj'; exact g4 j x hj')
    refine ⟨c, _, hmv, .refl c nx, .inr ⟨?_, rfl⟩⟩
    simp only [execOp, ho, Instr.mapUpdate, e1, Sem.run_bind, run_underlying hu, Result.andThen_ok, MapKept.run_getObj_map g1, hck, hr1, MapKept.run_setObj_map _ g1, g3, Array.size_push]
    rfl

theorem act_mapEntry (ht : TmR c tm a.tmps) (r : R c h.get w) (hbd : Bd c nx) {t kt e : Nat} {m k : Operand} (ho : o.op = .mapEntry t m k) (hu : P.underlying t = some (.map kt e)) {b : Nat} {kv : AV} (hm : opnd tm m = some (.at (.mp b))) (hk : opnd tm k = some kv) (hok : keyOk P kt kv = true)
    {l : List (List At × Bool × At)} (hb : h.get b = some (.map l)) {kc : List At} (hc : cellsOf kv = some kc) {z : At} (hz : tZero1 P e = some z) {res : Option (Nat × At)} (hf : findA kc (isAggV kv) l 0 = some res)
    (hl : (∃ i u, res = some (i, u) ∧ h' = h ∧ v = .tup [([u], false), ([.int .i64 i], false)]) ∨ (res = none ∧ h' = h.set b (.map (l ++ [(kc, isAggV kv, z)])) ∧ v = .tup [([z], false), ([.int .i64 l.length], false)])) :
    Acts P c h nx o a w v h' nx := by
  obtain ⟨p, hp, e1⟩ : ∃ p, c b = some p ∧ a.eval m = .map (some p.b) := opnd_sound ht hm
  obtain ⟨q, es, ck, hq, g1, g2, g3, g4⟩ := r.map hb
  rw [hp] at hq; cases hq
  have hkx := opnd_sound ht hk
  obtain ⟨r', hr1, hr2⟩ := find_sound hok hkx hc g2 hf w
  have hck := run_checkKey2 (P := P) hok hkx false w
  rcases hl with ⟨i, u, rfl, rfl, rfl⟩ | ⟨rfl, rfl, rfl⟩
  · obtain ⟨ent, q1, q2, rfl, q3⟩ := hr2
    have q1' : es[i]? = some ent := by simpa using q1
    have hst := stays (P := P) hok hkx w
    obtain ⟨hlt, heq⟩ := Array.getElem?_eq_some_iff.1 q1'
    have hmod : es.modify i (fun e => { e with key := a.eval k }) = es := by
      apply Array.ext_getElem?
      intro j
      rw [Array.getElem?_modify]
      by_cases hj : i = j
      · subst hj; simp [q1']; rw [← q3]
      · simp [hj]
    have hmv : Mv c h'.get w c h'.get { w with heap := w.heap.setIfInBounds p.b (.map es es.size) } := by
      refine Mv.upd r hb hp (B' := .map l) ⟨es, es.size, ?_, g2, rfl, g4⟩ (fun x hx => ?_) (by simp) (fun id b' hi => ?_)
      · show (w.heap.setIfInBounds p.b _)[p.b]? = _
        rw [setObj_heap (r.lt hb hp), if_pos rfl]
      · show (w.heap.setIfInBounds p.b _)[x]? = _
        rw [setObj_heap (r.lt hb hp), if_neg hx]
      · by_cases hib : id = b
        · subst hib; rw [hb] at hi; cases hi; exact .inl ⟨rfl, rfl⟩
        · exact .inr ⟨hib, hi⟩
    refine ⟨c, _, hmv, .refl c nx, .inl ⟨.tuple #[ent.val, goInt i], ?_, #[ent.val, goInt i], rfl, .cons ⟨fun h => (by simp at h), fun _ => ⟨u, rfl, q2⟩⟩ (.cons ⟨fun h => (by simp at h), fun _ => ⟨_, rfl, rfl⟩⟩ .nil)⟩⟩
    have hkey : ((es[i]?).map (·.key)).getD (a.eval k) = a.eval k := by simp [q1', q3]
    have hborn : ((es[i]?).map (fun x => ((x.born : Nat) : Int))).getD 0 = (i : Int) := by simp [q1', g4 i ent q1']
    simp only [execOp, ho, Instr.mapEntry, e1, Sem.run_bind, run_underlying hu, Result.andThen_ok, MapKept.run_getObj_map g1, hck, hr1, hkey, hst, hmod, MapKept.run_setObj_map _ g1, g3, hborn]
    rfl
  · have : r' = none := hr2
    subst this
    obtain ⟨v0, hz1, hz2⟩ := tZero1_sound hz
    have hlen := g2.length
    simp only [Array.length_toList] at hlen
    have hmv := Mv.setMap (es := es.push { key := a.eval k, val := v0, born := es.size }) r hb (l' := l ++ [(kc, isAggV kv, z)]) hp (by
      rw [Array.toList_push]
      refine g2.append (.cons ⟨⟨fun hg => ?_, fun hg => ?_⟩, hz2 c⟩ .nil)
      · cases kv with
        | agg l => obtain ⟨cs, q1, q2⟩ := hkx; simp [cellsOf] at hc; subst hc; exact ⟨cs, q1, q2⟩
        | _ => simp [isAggV] at hg
      · cases kv with
        | «at» x => simp [cellsOf] at hc; subst hc; exact ⟨x, rfl, hkx⟩
        | agg l => simp [isAggV] at hg
        | tup l => simp [cellsOf] at hc) (by
      intro j x hj
      have hj' : (es.push { key := a.eval k, val := v0, born := es.size })[j]? = some x := hj
      rw [Array.getElem?_push] at hj'
      by_cases hjs : j = es.size
      · subst hjs; simp at hj'; rw [← hj']
      · rw [if_neg hjs] at hj'; exact g4 j x hj')
    refine ⟨c, _, hmv, .refl c nx, .inl ⟨.tuple #[v0, goInt es.size], ?_, #[v0, goInt es.size], rfl, .cons ⟨fun h => (by simp at h), fun _ => ⟨z, rfl, hz2 c⟩⟩ (.cons ⟨fun h => (by simp at h), fun _ => ⟨_, rfl, by rw [hlen]; rfl⟩⟩ .nil)⟩⟩
    simp only [execOp, ho, Instr.mapEntry, e1, Sem.run_bind, run_underlying hu, Result.andThen_ok, MapKept.run_getObj_map g1, hck, hr1, hz1, MapKept.run_setObj_map _ g1, g3, Array.size_push]
    rfl

theorem act_entryStore (ht : TmR c tm a.tmps) (r : R c h.get w) (hbd : Bd c nx) {t : Nat} {m s y : Operand} (ho : o.op = .entryStore t m s y) {b i : Nat} {k : IntKind} {z : At} (hm : opnd tm m = some (.at (.mp b))) (hs : opnd tm s = some (.at (.int k (.ofNat i)))) (hy : opnd tm y = some (.at z))
    {l : List (List At × Bool × At)} (hb : h.get b = some (.map l)) {k' : List At} {g : Bool} {u : At} (hli : l[i]? = some (k', g, u)) : Acts P c h nx o a w (.tup []) (h.set b (.map (setNth l i (k', g, z)))) nx := by
  obtain ⟨p, hp, e1⟩ : ∃ p, c b = some p ∧ a.eval m = .map (some p.b) := opnd_sound ht hm
  obtain ⟨q, es, ck, hq, g1, g2, g3, g4⟩ := r.map hb
  rw [hp] at hq; cases hq
  have e2 : a.eval s = .int k i := opnd_sound ht hs
  have hyz : AtR c z (a.eval y) := opnd_sound ht hy
  obtain ⟨ent, q1, q2⟩ := g2.get i _ hli
  have q1' : es[i]? = some ent := by simpa using q1
  obtain ⟨hlt, heq⟩ := Array.getElem?_eq_some_iff.1 q1'
  have hfind : es.findIdx? (fun e => (e.born : Int) == (i : Int)) = some i := by
    rw [Array.findIdx?_eq_some_iff_getElem]
    refine ⟨hlt, by simp [heq, g4 i ent q1'], fun j hj => ?_⟩
    have := g4 j es[j] (Array.getElem?_eq_getElem _)
    simp [this]; omega
  have hmodl : (es.modify i fun e => { e with val := a.eval y }).toList = es.toList.set i { ent with val := a.eval y } := by
    apply List.ext_getElem?
    intro j
    rw [Array.getElem?_toList, Array.getElem?_modify, List.getElem?_set]
    by_cases hj : i = j
    · subst hj; simp [hlt, heq]
    · simp [hj]
  have hmod : (es.modify i fun e => { e with val := a.eval y }).size = es.size := by simp
  have hmv := Mv.setMap (es := es.modify i fun e => { e with val := a.eval y }) r hb (l' := setNth l i (k', g, z)) hp (by
    rw [hmodl]
    exact g2.setNth i _ _ ⟨q2.1, hyz⟩) (by
    intro j x hj
    have : (es.modify i fun e => { e with val := a.eval y })[j]? = some x := hj
    rw [Array.getElem?_modify] at this
    by_cases hij : i = j
    · subst hij; simp [q1'] at this; rw [← this]; exact g4 i ent q1'
    · simp [hij] at this; exact g4 j x this)
  refine ⟨c, _, hmv, .refl c nx, .inr ⟨?_, rfl⟩⟩
  simp only [execOp, ho, Instr.entryStore, e1, e2, asInt, asIntOf, Sem.run_bind, Sem.run_pure, Result.andThen_ok, MapKept.run_getObj_map g1, hfind, MapKept.run_setObj_map _ g1, g3, hmod]

end acts

end Go.Proofs.YtljkldmjakabdaaGreat.Ev

