/- TopCounts by reckoning: append, copy, clear. -/
import Derived.Test.YtljkldmjakabdaaGreatEvN
namespace Go.Proofs.YtljkldmjakabdaaGreat.Ev
open Go

variable {P : Program}

section acts
variable {c : Cx} {tm : T AV} {a : Act} {o : Oper} {v : AV} {h h' : Hp} {w : World} {nx : Nat}

/-- A slice's cells, read at the address that it bears. -/
theorem slice_cells (r : R c h.get w) {b off l k z : Nat} {ex : Bool} {v : Value} (hv : AtR c (.slc b off l k z ex) v) {m : Nat} (hm : m ≤ l) {cs : List At} (hl : rdN h b off (m * z) = some cs) :
    ∃ p o' k', c b = some p ∧ v = .slice (some ⟨p.b, o', none⟩) l k' ∧ (k' ≠ 0 → o' = p.o + off) ∧ l ≤ k ∧ k ≤ k' ∧ (ex = true → k' = k) ∧ p.o + off + k' * z ≤ p.n ∧
      ∃ vs : List Value, vs.length = m * z ∧ (∀ (j : Nat) (u : Value), vs[j]? = some u → w.cell? (Addr.add ⟨p.b, o', none⟩ j) = some u) ∧ All2 (AtR c) cs vs := by
  obtain ⟨p, hp, o', k', e1, e2, h3, h4, h5, h6⟩ := hv
  obtain ⟨vs, g1, g2, g3⟩ := rdN_sound r hl hp
  refine ⟨p, o', k', hp, e1, e2, h3, h4, h5, h6, vs, g1, ?_, g3⟩
  intro j u hu
  by_cases hk : k' = 0
  · have : m = 0 := by omega
    subst this
    rw [Nat.zero_mul] at g1
    rw [List.eq_nil_of_length_eq_zero g1] at hu
    simp at hu
  · rw [e2 hk]; exact g2 j u hu

theorem zeroCells_size (z : Array Value) (n : Nat) : (Builtin.zeroCells z n).size = n * z.size := by simp [Builtin.zeroCells]

/-- A longer list lies at a block's beginning. -/
theorem obj_front {c : Cx} {b : Nat} {l : List At} {vs : List Value} (hv : All2 (AtR c) l vs) (rest : Array Value) (e : Nat) (ty : Ty) (hty : TyR ty 0 e (vs.toArray ++ rest).size l.length (0, 0)) :
    ObjR c ⟨b, 0, (vs.toArray ++ rest).size⟩ (.cells (T.ofList l 0 .leaf) l.length ty) (some (.cells (vs.toArray ++ rest) e (0, 0))) := by
  have hlen := hv.length
  refine ⟨_, e, (0, 0), rfl, rfl, by simp; omega, .inl rfl, fun i a hi => ?_, hty⟩
  rcases T.get_ofList _ _ _ _ _ hi with ⟨_, h2⟩ | ⟨_, h2⟩
  · simp only [Nat.sub_zero] at h2
    obtain ⟨v, hv', hr⟩ := hv.get i a h2
    have hlt := (List.getElem?_eq_some_iff.1 hv').1
    refine ⟨by have := (List.getElem?_eq_some_iff.1 h2).1; omega, v, ?_, hr⟩
    simp only [Nat.zero_add]
    rw [Array.getElem?_append_left (by simpa using hlt)]
    simpa using hv'
  · cases h2

theorem tyOn_new (h : Hp) (b off e size n : Nat) (fr : Nat × Nat) : TyR (tyOn h b off e) 0 e size n fr := by
  unfold tyOn
  split
  · rename_i t m x _
    cases hx : Nat.beq x e with
    | false => exact trivial
    | true => cases ho : Nat.beq off 0 with
      | false => exact trivial
      | true => exact ⟨rfl, rfl⟩
  · rename_i t m x _
    cases hx : Nat.beq x e with
    | false => exact trivial
    | true => cases ho : Nat.beq off 0 with
      | false => exact trivial
      | true => exact ⟨rfl, rfl⟩
  · exact trivial

theorem tyOn_in {h : Hp} {b off e : Nat} {t0 : T At} {m0 : Nat} {ty0 : Ty} (hb : h.get b = some (.cells t0 m0 ty0)) {po el sz : Nat} {fr : Nat × Nat} (hty : TyR ty0 po el sz m0 fr) (size n : Nat) (fr' : Nat × Nat) : TyR (tyOn h b off e) (po + off) el size n fr' := by
  unfold tyOn
  rw [hb]
  cases ty0 with
  | no => exact trivial
  | row x =>
    simp only [beq_dec]
    by_cases hx : x = e
    · by_cases ho : off = 0
      · simp only [hx, ho, decide_true, cond_true]; exact ⟨by rw [← hx]; exact hty.1, by rw [hty.2]⟩
      · simp only [hx, ho, decide_true, decide_false, cond_true, cond_false]; exact trivial
    · simp only [hx, decide_false, cond_false]; exact trivial
  | var x =>
    simp only [beq_dec]
    by_cases hx : x = e
    · by_cases ho : off = 0
      · simp only [hx, ho, decide_true, cond_true]; exact ⟨by rw [← hx]; exact hty.1, by rw [hty.2.1]⟩
      · simp only [hx, ho, decide_true, decide_false, cond_true, cond_false]; exact trivial
    · simp only [hx, decide_false, cond_false]; exact trivial

theorem Bd.le {n m : Nat} (hb : Bd c n) (h : n ≤ m) : Bd c m := fun i p hi => Nat.lt_of_lt_of_le (hb i p hi) h

theorem run_app {o : Oper} {s x : Operand} {t : Nat} (ho : o.op = .call { callee := .builtin .append, args := #[s, x], argTypes := #[t, t] }) {u u' : Value} (hs : a.eval s = u) (hx : a.eval x = u') {y : Value} {w w' : World} (hr : (Builtin.append_ #[t, t] o.type #[u, u']).run P w = .ok y w') :
    (execOp a.eval o).run P w = .ok (.value y) w' := by
  simp [execOp, ho, resolve, invoke, builtin, hs, hx, hr, Result.andThen]

theorem act_append (ht : TmR c tm a.tmps) (r : R c h.get w) (hbd : Bd c nx) {t e z n : Nat} {s x : Operand} (ho : o.op = .call { callee := .builtin .append, args := #[s, x], argTypes := #[t, t] }) (hu : P.underlying t = some (.slice e)) {sv xv : At} (hs : opnd tm s = some (.at sv)) (hx : opnd tm x = some (.at xv))
    (hz : tSize P e = some z) {zl : List At} (hzl : tZero P e = some zl) (hzz : zl.length = z) {y : Nat} (hy : tBytes P e = some y) (hy1 : y ≤ 1000) {cs : List At} (hn : newsOf h z xv = some (n, cs)) {nx' : Nat} (hA : appendA h nx e z sv n cs = some (v, h', nx')) : Acts P c h nx o a w v h' nx' := by
  obtain ⟨inf, v0, hi1, hi2, hi3⟩ := tZero_sound hzl
  have hisz : inf.size = z := by simp only [tSize, hi1, Option.map_some, Option.some.injEq] at hz; exact hz
  have hiby : inf.bytes = y := by simp only [tBytes, hi1, Option.map_some, Option.some.injEq] at hy; exact hy
  have hv0 : v0.cells.size = z := by have := (hi3 c).length; simp at this; omega
  have hxr : AtR c xv (a.eval x) := opnd_sound ht hx
  have hsr : AtR c sv (a.eval s) := opnd_sound ht hs
  -- what is appended
  unfold newsOf at hn
  split at hn
  case h_2 => cases hn
  rename_i b2 off2 l2 k2 z2 ex2
  split at hn
  case h_2 => cases hn
  rename_i cs2 hrd2
  simp only [Option.some.injEq, Prod.mk.injEq] at hn
  obtain ⟨rfl, rfl⟩ := hn
  obtain ⟨p2, o2, q2, hp2, ex, _, hl2, hk2, _, _, news, hnl, hnews, hnr⟩ : ∃ p o' k', c b2 = some p ∧ a.eval x = .slice (some ⟨p.b, o', none⟩) l2 k' ∧ (k' ≠ 0 → o' = p.o + off2) ∧ l2 ≤ k2 ∧ k2 ≤ k' ∧ (ex2 = true → k' = k2) ∧ p.o + off2 + k' * z2 ≤ p.n ∧
      ∃ vs : List Value, vs.length = l2 * z ∧ (∀ (j : Nat) (u : Value), vs[j]? = some u → w.cell? (Addr.add ⟨p.b, o', none⟩ j) = some u) ∧ All2 (AtR c) cs2 vs := by
    obtain ⟨p, hp, o', k', e1, e2, h3, h4, h5, h6⟩ := hxr
    obtain ⟨vs, g1, g2, g3⟩ := rdN_sound r hrd2 hp
    refine ⟨p, o', k', hp, e1, e2, h3, h4, h5, h6, vs, g1, ?_, g3⟩
    intro j u hu
    by_cases hk : k' = 0
    · have : l2 = 0 := by omega
      subst this
      rw [Nat.zero_mul] at g1
      rw [List.eq_nil_of_length_eq_zero g1] at hu
      simp at hu
    · rw [e2 hk]; exact g2 j u hu
  have hcl : cs2.length = l2 * z := by rw [hnr.length, hnl]
  unfold appendA at hA
  split at hA
  · -- onto nothing
    have es : a.eval s = .slice none 0 0 := hsr
    simp only [beq_dec, blt_dec] at hA
    by_cases h0 : l2 = 0
    · simp only [h0, decide_true, cond_true, Option.some.injEq, Prod.mk.injEq] at hA
      obtain ⟨rfl, rfl, rfl⟩ := hA
      refine ⟨c, w, Mv.refl r, .refl c nx, .inl ⟨.slice none 0 0, run_app ho es ex ?_, rfl⟩⟩
      have hf := run_firstCells_some (P := P) w z l2 ⟨p2.b, o2, none⟩ l2 q2 news hnl hnews
      subst h0
      simp only [Nat.zero_mul] at hnl
      have : news = [] := List.eq_nil_of_length_eq_zero hnl
      subst this
      simp [Builtin.append_, run_underlying hu, sizeOf, typeInfo, hi1, hisz, Builtin.lenOf, hf]
    · simp only [h0, decide_false, cond_false] at hA
      by_cases h1 : l2 < 10000
      case neg => simp [h1] at hA
      simp only [h1, decide_true, cond_true, Option.some.injEq, Prod.mk.injEq] at hA
      obtain ⟨rfl, rfl, rfl⟩ := hA
      have hr := run_append_nil (P := P) w t o.type e inf v0 hu hi1 hi2 ⟨p2.b, o2, none⟩ l2 q2 news (by rw [hisz]; exact hnl) hnews (by omega) (by omega) (by rw [hiby]; have : l2 * y ≤ 10000 * 1000 := Nat.mul_le_mul (by omega) hy1; omega)
      have hge := grownCap_ge w l2 0 e
      have hsz : (news.toArray ++ Builtin.zeroCells v0.cells (grownCap w l2 0 e - l2)).size = grownCap w l2 0 e * z := by
        rw [Array.size_append, zeroCells_size, hv0]; simp only [List.size_toArray, hnl]; rw [← Nat.add_mul]; congr 1; omega
      have hob := obj_front (c := c.put nx ⟨w.heap.size, 0, grownCap w l2 0 e * z⟩) (b := w.heap.size) (hnr.mono fun _ _ => AtR.mono (Cx.le_put hbd.none ⟨w.heap.size, 0, grownCap w l2 0 e * z⟩)) (Builtin.zeroCells v0.cells (grownCap w l2 0 e - l2)) e (.row e) ⟨rfl, rfl⟩
      rw [hsz, hcl] at hob
      refine ⟨c.put nx ⟨w.heap.size, 0, grownCap w l2 0 e * z⟩, _, Mv.new_ r hbd.none (p := ⟨w.heap.size, 0, grownCap w l2 0 e * z⟩) (w' := w.drew.alloc (.cells (news.toArray ++ Builtin.zeroCells v0.cells (grownCap w l2 0 e - l2)) e)) (B := .cells (T.ofList cs2 0 .leaf) (l2 * z) (.row e)) ?_ (Nat.le_refl _) (fun x hx => heap_alloc_old w.drew _ hx) (by simp) (get_set_cases _ _ _), Gr.put c nx _, .inl ⟨_, run_app ho es ex hr, ⟨_, Cx.put_same _ _ _, 0, _, rfl, fun _ => rfl, Nat.le_refl _, hge, fun h => (by cases h), by simp⟩⟩⟩
      show ObjR _ _ _ ((w.drew.alloc _).heap[w.drew.heap.size]?)
      rw [heap_alloc_new w.drew _]
      exact hob
  · rename_i b off l k z' exf
    obtain ⟨p, hp, o', k', es, e2, h3, h4, h5, h6⟩ := hsr
    simp only [beq_dec] at hA
    by_cases hzz' : z = z'
    case neg => simp [hzz'] at hA
    subst hzz'
    simp only [decide_true, cond_true, ble_dec] at hA
    by_cases hroom : l + l2 ≤ k
    · -- there is room
      simp only [hroom, decide_true, cond_true] at hA
      split at hA
      case h_2 => cases hA
      rename_i h1 hw
      simp only [Option.some.injEq, Prod.mk.injEq] at hA
      obtain ⟨rfl, rfl, rfl⟩ := hA
      obtain ⟨hmv, g1, g2⟩ := Mv.store r hnr hw hp
      have hoff : news.length ≠ 0 → o' + l * z = p.o + (off + l * z) := by
        intro hne
        rw [e2 (by intro hk; subst hk; have : l2 = 0 := by omega
                   subst this; omega)]
        omega
      have hr := run_append_room_cells (P := P) w t o.type e inf hu hi1 p.b o' l k' ⟨p2.b, o2, none⟩ l2 q2 news (by rw [hisz]; exact hnl) hnews hnr.one' (by omega)
        (by intro j hj; rw [hisz, hoff (by omega)]; exact g1 j hj) (by intro j hj; rw [hisz, hoff (by omega)]; exact g2 j hj)
      have hww : w.setCells p.b (o' + l * inf.size) news = w.setCells p.b (p.o + (off + l * z)) news := by
        by_cases hne : news.length = 0
        · rw [List.eq_nil_of_length_eq_zero hne]; rfl
        · rw [hisz, hoff hne]
      rw [hww] at hr
      exact ⟨c, _, hmv, .refl c nx, .inl ⟨_, run_app ho es ex hr, ⟨p, hp, o', k', rfl, e2, by omega, h4, h5, h6⟩⟩⟩
    · -- perhaps there is none
      simp only [hroom, decide_false, cond_false, blt_dec] at hA
      by_cases h1 : l + l2 < 10000
      case neg => simp [h1] at hA
      simp only [h1, decide_true, cond_true] at hA
      split at hA
      case h_2 => cases hA
      rename_i old hold
      simp only [Option.some.injEq, Prod.mk.injEq] at hA
      obtain ⟨rfl, rfl, rfl⟩ := hA
      obtain ⟨p', o'', k'', hp', es', _, _, _, _, _, olds, hol, holds, hor⟩ := slice_cells r (b := b) (off := off) (l := l) (k := k) (z := z) (ex := exf) (v := a.eval s) ⟨p, hp, o', k', es, e2, h3, h4, h5, h6⟩ (Nat.le_refl l) hold
      rw [hp] at hp'; cases hp'
      rw [es] at es'
      simp only [Value.slice.injEq, Option.some.injEq, Addr.mk.injEq, and_true, true_and] at es'
      obtain ⟨rfl, rfl⟩ := es'
      have hall := hor.append hnr
      have hlen : (old ++ cs2).length = (l + l2) * z := by rw [List.length_append, hor.length, hol, hcl, Nat.add_mul]
      by_cases hfit : l + l2 ≤ k'
      · -- in place
        have hexf : exf = false := by cases exf with
          | false => rfl
          | true => have := h5 rfl; omega
        subst hexf
        simp only [cond_false]
        have hk0 : k' ≠ 0 := by omega
        have ho' := e2 hk0
        subst ho'
        have hbb : ∃ t0 m0 ty0, h.get b = some (.cells t0 m0 ty0) := by
          unfold rdN at hold
          split at hold
          · rename_i t0 m0 ty0 hb0; exact ⟨t0, m0, ty0, hb0⟩
          · cases hold
        obtain ⟨t0, m0, ty0, hb0⟩ := hbb
        obtain ⟨q, ca, el, fr, hq, f1, f2, f3, f4, f5, f6⟩ := r.cells hb0
        rw [hp] at hq; cases hq
        have hle : (l + l2) * z ≤ k' * z := Nat.mul_le_mul_right _ hfit
        have hadd : (l + l2) * z = l * z + l2 * z := Nat.add_mul _ _ _
        have hr := run_append_room_cells (P := P) w t o.type e inf hu hi1 p.b (p.o + off) l k' ⟨p2.b, o2, none⟩ l2 q2 news (by rw [hisz]; exact hnl) hnews hnr.one' hfit
          (by intro j hj; rw [hisz, cell_at f1, Array.getElem?_eq_getElem (by omega)]; rfl) (by intro j hj; rw [hisz]; exact frozen_at f1 (notFr f4 (by omega)))
        rw [hisz] at hr
        obtain ⟨ca', k1, k2', k3⟩ := setCells_at p.b news (p.o + off + l * z) w ca el fr f1
        refine ⟨c.put nx ⟨p.b, p.o + off, p.n⟩, _, Mv.again r hbd.none (B' := .cells (T.ofList (old ++ cs2) 0 .leaf) ((l + l2) * z) (tyOn h b off e)) (w' := w.setCells p.b (p.o + off + l * z) news) hb0 hp (p' := ⟨p.b, p.o + off, p.n⟩) rfl ⟨ca', el, fr, k1, by rw [k2']; exact f2, by rw [k2', f2]; show p.o + off + (l + l2) * z ≤ p.n; omega, by rw [k2']; exact f4, ?_, tyOn_in hb0 f6 _ _ _⟩ (fun x hx => setCells_other _ _ hx _ _ _) (by rw [setCells_size]; exact Nat.le_refl _) ?_ (setCells_out _ _ _ _), Gr.put c nx _, .inl ⟨_, run_app ho es ex hr, ⟨_, Cx.put_same _ _ _, p.o + off, k', rfl, fun _ => rfl, Nat.le_refl _, hfit, fun h => (by cases h), ?_⟩⟩⟩
        · intro i u hi
          rcases T.get_ofList _ _ _ _ _ hi with ⟨_, g2⟩ | ⟨_, g2⟩
          · simp only [Nat.sub_zero] at g2
            have hil : i < (old ++ cs2).length := (List.getElem?_eq_some_iff.1 g2).1
            obtain ⟨vv, hvv, hvr⟩ := hall.get i u g2
            refine ⟨by omega, vv, ?_, hvr.mono (Cx.le_put hbd.none _)⟩
            show ca'[p.o + off + i]? = some vv
            rw [k3]
            by_cases hio : i < l * z
            · rw [if_neg (by omega)]
              rw [List.getElem?_append_left (by omega)] at hvv
              have := holds i vv hvv
              rw [addr_add, cell_at f1] at this
              exact this
            · rw [if_pos (by omega)]
              rw [List.getElem?_append_right (by omega), hol] at hvv
              rw [show p.o + off + i - (p.o + off + l * z) = i - l * z from by omega]
              exact hvv
          · cases g2
        · intro id b' hi
          rcases T.get_set _ _ _ _ _ hi with ⟨e1, e2⟩ | ⟨e1, e2⟩
          · exact .inl ⟨e1, e2⟩
          · obtain ⟨e3, e4⟩ := T.get_erase _ _ _ _ e2
            exact .inr ⟨e1, e3, e4⟩
        · show p.o + off + 0 + k' * z ≤ p.n
          omega
      · -- anew
        have hr := run_append_grow (P := P) w t o.type e inf v0 hu hi1 hi2 ⟨p.b, o', none⟩ l k' olds (by rw [hisz]; exact hol) holds ⟨p2.b, o2, none⟩ l2 q2 news (by rw [hisz]; exact hnl) hnews (by omega) (by omega)
          (growslice_fits (by omega) (by rw [hiby]; have : (l + l2) * y ≤ 10000 * 1000 := Nat.mul_le_mul (by omega) hy1; omega))
        have hge := grownCap_ge w (l + l2) k' e
        have hsz : ((olds ++ news).toArray ++ Builtin.zeroCells v0.cells (grownCap w (l + l2) k' e - (l + l2))).size = grownCap w (l + l2) k' e * z := by
          rw [Array.size_append, zeroCells_size, hv0]; simp only [List.size_toArray, List.length_append, hnl, hol]; rw [← Nat.add_mul, ← Nat.add_mul]; congr 1; omega
        have hob := obj_front (c := c.put nx ⟨w.heap.size, 0, grownCap w (l + l2) k' e * z⟩) (b := w.heap.size) (hall.mono fun _ _ => AtR.mono (Cx.le_put hbd.none ⟨w.heap.size, 0, grownCap w (l + l2) k' e * z⟩)) (Builtin.zeroCells v0.cells (grownCap w (l + l2) k' e - (l + l2))) e (tyOn h b off e) (tyOn_new h b off e _ _ _)
        rw [hsz, hlen] at hob
        have harr : olds.toArray ++ news.toArray = (olds ++ news).toArray := by simp
        rw [harr] at hr
        refine ⟨c.put nx ⟨w.heap.size, 0, grownCap w (l + l2) k' e * z⟩, _, Mv.new_ r hbd.none (p := ⟨w.heap.size, 0, grownCap w (l + l2) k' e * z⟩) (w' := w.drew.alloc (.cells ((olds ++ news).toArray ++ Builtin.zeroCells v0.cells (grownCap w (l + l2) k' e - (l + l2))) e)) (B := .cells (T.ofList (old ++ cs2) 0 .leaf) ((l + l2) * z) (tyOn h b off e)) ?_ (Nat.le_refl _) (fun x hx => heap_alloc_old w.drew _ hx) (by simp) ?_, Gr.put c nx _, .inl ⟨_, run_app ho es ex hr, ⟨_, Cx.put_same _ _ _, 0, _, rfl, fun _ => rfl, Nat.le_refl _, hge, fun h => (by cases h), by simp⟩⟩⟩
        · show ObjR _ _ _ ((w.drew.alloc _).heap[w.drew.heap.size]?)
          rw [heap_alloc_new w.drew _]
          exact hob
        · intro id b' hi
          rcases T.get_set _ _ _ _ _ hi with ⟨e1, e2⟩ | ⟨e1, e2⟩
          · exact .inl ⟨e1, e2⟩
          · refine .inr ⟨e1, ?_⟩
            cases exf with
            | true => exact e2
            | false => exact (T.get_erase _ _ _ _ e2).2
  · cases hA

theorem act_copy (ht : TmR c tm a.tmps) (r : R c h.get w) (hbd : Bd c nx) {t e : Nat} {d s : Operand} {ats : Array Nat} (h2' : ats[0]? = some t) (ho : o.op = .call { callee := .builtin .copy, args := #[d, s], argTypes := ats }) (hu : P.underlying t = some (.slice e)) {b off l k z b' off' l' k' z' : Nat} {ex ex' : Bool}
    (hd : opnd tm d = some (.at (.slc b off l k z ex))) (hs : opnd tm s = some (.at (.slc b' off' l' k' z' ex'))) (hz : tSize P e = some z) {cs : List At} (hr : rdN h b' off' (Nat.min l' l * z) = some cs) (hw : wrN h b off cs = some h') :
    Acts P c h nx o a w (.at (.int .i64 (Nat.min l' l))) h' nx := by
  obtain ⟨p, hp, o1, k1, e1, e2, h3, h4, h5, h6⟩ : ∃ p, c b = some p ∧ ∃ o' k', a.eval d = .slice (some ⟨p.b, o', none⟩) l k' ∧ (k' ≠ 0 → o' = p.o + off) ∧ l ≤ k ∧ k ≤ k' ∧ (ex = true → k' = k) ∧ p.o + off + k' * z ≤ p.n := opnd_sound ht hd
  obtain ⟨p2, hp2, o2, k2, f1, f2, f3, f4, f5, f6⟩ : ∃ p, c b' = some p ∧ ∃ o' k2, a.eval s = .slice (some ⟨p.b, o', none⟩) l' k2 ∧ (k2 ≠ 0 → o' = p.o + off') ∧ l' ≤ k' ∧ k' ≤ k2 ∧ (ex' = true → k2 = k') ∧ p.o + off' + k2 * z' ≤ p.n := opnd_sound ht hs
  obtain ⟨vs, g1, g2, g3⟩ := rdN_sound r hr hp2
  obtain ⟨hmv, q1, q2⟩ := Mv.store r g3 hw hp
  have hm1 : Nat.min l' l ≤ l' := Nat.min_le_left _ _
  have hm2 : Nat.min l' l ≤ l := Nat.min_le_right _ _
  have hne : vs.length ≠ 0 → o1 = p.o + off ∧ o2 = p2.o + off' := by
    intro hn
    have hpos : Nat.min l' l ≠ 0 := by intro h0; rw [h0, Nat.zero_mul] at g1; omega
    exact ⟨e2 (by omega), f2 (by omega)⟩
  have hfc : (Builtin.firstCells z (Nat.min l' l) (.slice (some ⟨p2.b, o2, none⟩) l' k2)).run P w = .ok vs.toArray w := by
    refine run_firstCells_some (P := P) w z (Nat.min l' l) ⟨p2.b, o2, none⟩ l' k2 vs g1 fun j u hj => ?_
    rw [(hne (by have := (List.getElem?_eq_some_iff.1 hj).1; omega)).2]
    exact g2 j u hj
  have hst : (storeCells ⟨p.b, o1, none⟩ vs 0).run P w = .ok () (w.setCells p.b (p.o + off) vs) := by
    by_cases hn : vs.length = 0
    · rw [List.eq_nil_of_length_eq_zero hn]; rfl
    · rw [(hne hn).1]
      have := run_storeCells_cells (P := P) p.b (p.o + off) vs 0 w (by simpa using q1) (by simpa using q2) g3.one'
      simpa using this
  obtain ⟨inf, hi, hsz⟩ := run_sizeS hz
  refine ⟨c, _, hmv, .refl c nx, .inl ⟨goInt (Nat.min l' l), ?_, rfl⟩⟩
  simp [execOp, ho, resolve, invoke, builtin, e1, f1, Builtin.copy_, h2', run_underlying hu, Builtin.lenOf, sizeOf, typeInfo, hi, hsz, hfc, hst, Result.andThen]

theorem act_copyNil (ht : TmR c tm a.tmps) (r : R c h.get w) (hbd : Bd c nx) {t e : Nat} {d s : Operand} {ats : Array Nat} (h2' : ats[0]? = some t) (ho : o.op = .call { callee := .builtin .copy, args := #[d, s], argTypes := ats }) (hu : P.underlying t = some (.slice e)) {b off l k z : Nat} {ex : Bool}
    (hd : opnd tm d = some (.at (.slc b off l k z ex))) (hs : opnd tm s = some (.at .nils)) (hz : tSize P e = some z) : Acts P c h nx o a w (.at (.int .i64 0)) h nx := by
  obtain ⟨p, hp, o1, k1, e1, e2, h3, h4, h5, h6⟩ : ∃ p, c b = some p ∧ ∃ o' k', a.eval d = .slice (some ⟨p.b, o', none⟩) l k' ∧ (k' ≠ 0 → o' = p.o + off) ∧ l ≤ k ∧ k ≤ k' ∧ (ex = true → k' = k) ∧ p.o + off + k' * z ≤ p.n := opnd_sound ht hd
  have f1 : a.eval s = .slice none 0 0 := opnd_sound ht hs
  obtain ⟨inf, hi, hsz⟩ := run_sizeS hz
  refine ⟨c, w, Mv.refl r, .refl c nx, .inl ⟨goInt 0, ?_, rfl⟩⟩
  simp [execOp, ho, resolve, invoke, builtin, e1, f1, Builtin.copy_, h2', run_underlying hu, Builtin.lenOf, sizeOf, typeInfo, hi, hsz, Builtin.firstCells, storeCells, Result.andThen]

theorem act_clear (ht : TmR c tm a.tmps) (r : R c h.get w) (hbd : Bd c nx) {t e : Nat} {x : Operand} {ats : Array Nat} (h2' : ats[0]? = some t) (ho : o.op = .call { callee := .builtin .clear, args := #[x], argTypes := ats }) (hu : P.underlying t = some (.slice e)) {b off l k z : Nat} {ex : Bool}
    (hx : opnd tm x = some (.at (.slc b off l k z ex))) {zl : List At} (hz : tZero P e = some zl) (hzz : zl.length = z) (hw : wrN h b off (reps zl l) = some h') : Acts P c h nx o a w (.tup []) h' nx := by
  obtain ⟨p, hp, o1, k1, e1, e2, h3, h4, h5, h6⟩ : ∃ p, c b = some p ∧ ∃ o' k', a.eval x = .slice (some ⟨p.b, o', none⟩) l k' ∧ (k' ≠ 0 → o' = p.o + off) ∧ l ≤ k ∧ k ≤ k' ∧ (ex = true → k' = k) ∧ p.o + off + k' * z ≤ p.n := opnd_sound ht hx
  obtain ⟨inf, v0, hi1, hi2, hi3⟩ := tZero_sound hz
  have hall : All2 (AtR c) (reps zl l) (Builtin.zeroCells v0.cells l).toList := by
    have hl := (hi3 c).length
    simp only [Array.length_toList] at hl
    refine All2.of_get _ _ (by rw [reps_length, hl]; simp [zeroCells_size]) fun i a hi => ?_
    obtain ⟨g1, g2⟩ := reps_get _ _ _ _ hi
    obtain ⟨y, hy, hr⟩ := (hi3 c).get _ _ g2
    refine ⟨y, ?_, hr⟩
    have hy' : v0.cells[i % zl.length]? = some y := by simpa using hy
    simp only [Builtin.zeroCells, Array.getElem?_toList, Array.getElem?_map, Array.getElem?_range, ← hl, g1, if_true, Option.map_some]
    rw [getElem!_def, hy']
  obtain ⟨hmv, q1, q2⟩ := Mv.store r hall hw hp
  refine ⟨c, _, hmv, .refl c nx, .inl ⟨.tuple #[], ?_, #[], rfl, .nil⟩⟩
  have hst : l ≠ 0 → (storeCells ⟨p.b, o1, none⟩ (Builtin.zeroCells v0.cells l).toList 0).run P w = .ok () (w.setCells p.b (p.o + off) (Builtin.zeroCells v0.cells l).toList) := by
    intro hl
    rw [e2 (by omega)]
    have := run_storeCells_cells (P := P) p.b (p.o + off) (Builtin.zeroCells v0.cells l).toList 0 w (by simpa using q1) (by simpa using q2) hall.one'
    simpa using this
  cases l with
  | zero =>
    have : (Builtin.zeroCells v0.cells 0).toList = [] := by simp [Builtin.zeroCells]
    rw [this]
    simp [execOp, ho, resolve, invoke, builtin, e1, Builtin.clear_, h2', run_underlying hu, Result.andThen, World.setCells]
  | succ l =>
    have := hst (by omega)
    simp only [execOp, ho, resolve, invoke, builtin]
    simp [e1, Builtin.clear_, h2', run_underlying hu, run_zero hi1 hi2, this, Result.andThen]

end acts

end Go.Proofs.YtljkldmjakabdaaGreat.Ev

