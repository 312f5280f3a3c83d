/- TopCounts by reckoning: maps. -/
import Derived.Test.YtljkldmjakabdaaGreatEvS
import Derived.WideKeyRuns
import Derived.MapKept
import Derived.Laws.StructEq
namespace Go.Proofs.YtljkldmjakabdaaGreat.Ev
open Go

variable {P : Program}

theorem kEq_eq {k k' : IntKind} (h : kEq k k' = true) : k = k' := by revert h; cases k <;> cases k' <;> simp [kEq]
theorem bEq_eq {a b : Bool} (h : bEq a b = true) : a = b := by revert h; cases a <;> cases b <;> simp [bEq]

/-- A type that is a pair of numbers. -/
def Pair (P : Program) (t : Nat) : Prop := ∃ (fs : Array Field) (f g : Field) (q q' : IntKind), P.underlying t = some (.struct fs) ∧ fs.toList = [f, g] ∧ P.underlying f.type = some (.int q) ∧ P.underlying g.type = some (.int q') ∧
  f.offset = 0 ∧ g.offset = 1 ∧ f.name ≠ "_" ∧ g.name ≠ "_" ∧ P.stoodInHeld t = false

theorem pairOk_spec {t : Nat} (h : pairOk P t = true) : Pair P t := by
  unfold pairOk at h
  split at h
  · rename_i fs hu
    split at h
    · rename_i f g hfs
      split at h
      · rename_i q q' hf hg
        simp only [beq_dec] at h
        by_cases h1 : f.offset = 0
        case neg => simp [h1] at h
        by_cases h2 : g.offset = 1
        case neg => simp [h1, h2] at h
        simp only [h1, h2, decide_true, cond_true] at h
        cases h3 : (f.name == "_") with
        | true => simp [h3] at h
        | false =>
          cases h4 : (g.name == "_") with
          | true => simp [h3, h4] at h
          | false =>
            simp only [h3, h4, cond_false] at h
            exact ⟨fs, f, g, q, q', hu, hfs, hf, hg, h1, h2, by simpa using h3, by simpa using h4, by simpa using h⟩
      · cases h
    · cases h
  · cases h

/-- The kinds of keys. -/
theorem keyOk_cases {t : Nat} {v : AV} (h : keyOk P t v = true) : (P.underlying t = some .string ∧ ∃ s, v = .at (.str s)) ∨
    (∃ k k' m n, v = .agg [.int k m, .int k' n] ∧ Pair P t) := by
  unfold keyOk at h
  split at h
  · rename_i s hu; exact .inl ⟨hu, s, rfl⟩
  · rename_i fs k m k' n hu; exact .inr ⟨k, k', m, n, rfl, pairOk_spec h⟩
  · cases h

theorem part_int {e : Nat} {q : IntKind} (he : P.underlying e = some (.int q)) (cs : Array Value) (i : Nat) (v : Value) (h : cs[i]? = some v) (w : World) : (part e cs i).run P w = .ok v w := by
  simp [part, run_isAgg (show tAgg P e = some false from by simp [tAgg, he]), h, Result.andThen]

theorem run_pairEq {t : Nat} (hp : Pair P t) (k k' : IntKind) (m n m' n' : Int) (d : Nat) (w : World) :
    (Op.equalIn (d + 1 + 1) t (.agg #[.int k m, .int k' n]) (.agg #[.int k m', .int k' n'])).run P w = .ok (m == m' && n == n') w := by
  obtain ⟨fs, f, g, q, q', hu, hfs, hf, hg, o1, o2, n1, n2, hst⟩ := hp
  have hfo : P.fieldsOf t = fs := by simp [Program.fieldsOf, hu]
  have hint : ∀ (e : Nat) (q : IntKind) (_ : P.underlying e = some (.int q)) (k : IntKind) (x y : Int), (Op.equalIn (d + 1) e (.int k x) (.int k y)).run P w = .ok (x == y) w := by
    intro e q he k x y; simp [Op.equalIn, run_underlying he]
  rw [run_equalIn_struct w (d + 1) t _ _ (by rw [hfo]; exact hu) hst, hfo, hfs]
  have h0 : ∀ (x y : Value), (part f.type #[x, y] 0).run P w = .ok x w := fun x y => part_int hf _ _ _ (by simp) w
  have h1 : ∀ (x y : Value), (part g.type #[x, y] 1).run P w = .ok y w := fun x y => part_int hg _ _ _ (by simp) w
  simp only [Op.eqFields, n1, n2, o1, o2, ne_eq, not_false_eq_true, if_true, Sem.run_bind, h0, h1, hint f.type q hf, Result.andThen_ok]
  by_cases hm : m = m'
  · subst hm
    by_cases hn : n = n'
    · subst hn; simp [h1, hint g.type q' hg, Result.andThen]
    · simp [hn, h1, hint g.type q' hg, Result.andThen]
  · simp [hm]

theorem run_checkKey2 {t : Nat} {kv : AV} (h : keyOk P t kv = true) {c : Cx} {x : Value} (hx : AvR c kv x) (em : Bool) (w : World) : (Instr.checkKey em 10000 t x).run P w = .ok () w := by
  rcases keyOk_cases h with ⟨hu, s, rfl⟩ | ⟨k, k', m, n, rfl, hp⟩
  · obtain ⟨u, rfl, _⟩ : ∃ u, x = .string u ∧ strL u = s := hx
    exact MapKept.run_checkKey hu (show MapKept.IsKey .string (.string u) from trivial) em 9999
  · obtain ⟨cs, rfl, h2⟩ : ∃ cs, x = .agg cs ∧ All2 (AtR c) [.int k m, .int k' n] cs.toList := hx
    obtain ⟨l⟩ := cs
    cases h2 with
    | cons r1 h2 => cases h2 with
      | cons r2 h2 => cases h2 with
        | nil =>
          simp only [AtR] at r1 r2; subst r1 r2
          obtain ⟨fs, f, g, q, q', hu, hfs, hf, hg, o1, o2, n1, n2, hst⟩ := hp
          have hint : ∀ (e : Nat) (q : IntKind) (_ : P.underlying e = some (.int q)) (d : Nat) (k : IntKind) (x : Int), (Instr.checkKey em (d + 1) e (.int k x)).run P w = .ok () w := by
            intro e q he d k x; simp [Instr.checkKey, run_underlying he]
          have h0 : ∀ (x y : Value), (part f.type #[x, y] 0).run P w = .ok x w := fun x y => part_int hf _ _ _ (by simp) w
          have h1 : ∀ (x y : Value), (part g.type #[x, y] 1).run P w = .ok y w := fun x y => part_int hg _ _ _ (by simp) w
          have key : ∀ d', (∀ k x, (Instr.checkKey em d' f.type (.int k x)).run P w = .ok () w) → (∀ k x, (Instr.checkKey em d' g.type (.int k x)).run P w = .ok () w) → (Instr.checkKey em (d' + 1) t (.agg #[.int k m, .int k' n])).run P w = .ok () w := by
            intro d' hint1 hint2
            simp only [Instr.checkKey, Sem.run_bind, run_underlying hu, Result.andThen_ok]
            rw [← Array.forIn_toList, hfs]
            simp [n1, n2, o1, o2, h0, h1, hint1, hint2, Result.andThen]
          exact key 9999 (hint f.type q hf 9998) (hint g.type q' hg 9998)

/-- What a search found. -/
def FndR (c : Cx) (x : Value) (es : List MapEntry) : Option (Nat × At) → Option (Nat × Value) → Prop
  | none, r => r = none
  | some (j, a), r => ∃ e, es[j]? = some e ∧ AtR c a e.val ∧ r = some (j, e.val) ∧ e.key = x

/-- The keys' cells, held against each other. -/
theorem keysEq_str {s : List Nat} {k' : List At} {b : Bool} (h : keysEq [.str s] k' = some b) : ∃ s', k' = [.str s'] ∧ b = strEq s s' := by
  cases k' with
  | nil => simp [keysEq] at h
  | cons y k' =>
    cases k' with
    | nil =>
      cases y <;> simp [keysEq] at h
      exact ⟨_, rfl, h.symm⟩
    | cons z k' => cases y <;> simp [keysEq] at h

theorem keysEq_pair {k1 k2 : IntKind} {m n : Int} {k' : List At} {b : Bool} (h : keysEq [.int k1 m, .int k2 n] k' = some b) : ∃ m' n', k' = [.int k1 m', .int k2 n'] ∧ b = (m == m' && n == n') := by
  cases k' with
  | nil => simp [keysEq] at h
  | cons y k' =>
    cases y <;> simp [keysEq] at h
    rename_i q m'
    cases hk : kEq k1 q with
    | false => simp [hk] at h
    | true =>
      have := kEq_eq hk; subst this
      simp only [hk, cond_true] at h
      split at h
      · rename_i t ht
        cases k' with
        | nil => simp [keysEq] at ht
        | cons y k' =>
          cases y <;> simp [keysEq] at ht
          rename_i q n'
          cases hk2 : kEq k2 q with
          | false => simp [hk2] at ht
          | true =>
            have := kEq_eq hk2; subst this
            simp only [hk2, cond_true] at ht
            cases k' with
            | cons y k' => simp [keysEq] at ht
            | nil =>
              simp [keysEq] at ht
              simp at h
              refine ⟨m', n', rfl, ?_⟩
              rw [← h, ← ht, iEq_eq, iEq_eq]
      · cases h

theorem find_str {c : Cx} {s : List Nat} {u : ByteArray} (hu : strL u = s) : ∀ (l : List (List At × Bool × At)) (es : List MapEntry) (i : Nat) (r : Option (Nat × At)), findA [.str s] false l i = some r → All2 (EntR c) l es →
    ∃ r', Instr.findNow .string (.string u) es i = some r' ∧ (match r with | none => r' = none | some (j, a) => i ≤ j ∧ ∃ e, es[j - i]? = some e ∧ AtR c a e.val ∧ r' = some (j, e.val) ∧ e.key = .string u) := by
  intro l
  induction l with
  | nil => intro es i r h hes; cases hes; simp [findA] at h; subst h; exact ⟨none, rfl, rfl⟩
  | cons x l ih =>
    intro es i r h hes
    obtain ⟨k', g', v⟩ := x
    cases hes with
    | cons he hes =>
      rename_i e es
      simp only [findA] at h
      cases hb : bEq false g' with
      | false => simp [hb] at h
      | true =>
        have := bEq_eq hb; subst this
        simp only [hb, cond_true] at h
        obtain ⟨hk, hv⟩ := he
        obtain ⟨a, ha, hkey⟩ := hk.2 rfl
        simp only at ha hv
        subst ha
        cases hq : keysEq [.str s] [a] with
        | none => simp [hq] at h
        | some b =>
          obtain ⟨s', e1, hbb⟩ := keysEq_str hq
          simp only [List.cons.injEq, and_true] at e1; subst e1
          obtain ⟨u', hu', hs'⟩ : ∃ u', e.key = .string u' ∧ strL u' = s' := hkey
          have hsame : (u == u') = b := by
            rw [hbb, strEq_eq, Bool.eq_iff_iff, MapKept.bytes_beq, decide_eq_true_iff, ← hu, ← hs', strL_inj]
          rw [hq] at h
          cases b with
          | true =>
            simp at h; subst h
            exact ⟨some (i, e.val), by simp [Instr.findNow, hu', Instr.sameNow, hsame], Nat.le_refl _, e, by simp, hv, rfl, by rw [hu', (MapKept.bytes_beq _ _).1 hsame]⟩
          | false =>
            simp at h
            obtain ⟨r', h1, h2⟩ := ih es (i + 1) r h hes
            refine ⟨r', by simp [Instr.findNow, hu', Instr.sameNow, hsame, h1], ?_⟩
            cases r with
            | none => exact h2
            | some p =>
              obtain ⟨j, a⟩ := p
              obtain ⟨h3, e', h4, h5, h6⟩ := h2
              exact ⟨by omega, e', by rw [show j - i = (j - (i + 1)) + 1 from by omega]; simpa using h4, h5, h6⟩

theorem find_pair {c : Cx} {t : Nat} (hp : Pair P t) {k1 k2 : IntKind} {m n : Int} (w : World) :
    ∀ (l : List (List At × Bool × At)) (es : List MapEntry) (i : Nat) (r : Option (Nat × At)), findA [.int k1 m, .int k2 n] true l i = some r → All2 (EntR c) l es →
    ∃ r', (Instr.findAsking t (.agg #[.int k1 m, .int k2 n]) es i).run P w = .ok r' w ∧ (match r with | none => r' = none | some (j, a) => i ≤ j ∧ ∃ e, es[j - i]? = some e ∧ AtR c a e.val ∧ r' = some (j, e.val) ∧ e.key = .agg #[.int k1 m, .int k2 n]) := by
  intro l
  induction l with
  | nil => intro es i r h hes; cases hes; simp [findA] at h; subst h; exact ⟨none, rfl, rfl⟩
  | cons x l ih =>
    intro es i r h hes
    obtain ⟨k', g', v⟩ := x
    cases hes with
    | cons hent hes =>
      rename_i ent es
      simp only [findA] at h
      cases hb : bEq true g' with
      | false => simp [hb] at h
      | true =>
        have := bEq_eq hb; subst this
        simp only [hb, cond_true] at h
        obtain ⟨hk, hv⟩ := hent
        obtain ⟨cs, hkey, hcs⟩ := hk.1 rfl
        simp only at hcs hv
        cases hq : keysEq [.int k1 m, .int k2 n] k' with
        | none => simp [hq] at h
        | some b =>
          obtain ⟨m', n', e1, hbb⟩ := keysEq_pair hq
          subst e1
          obtain ⟨cl⟩ := cs
          cases hcs with
          | cons r1 hcs => cases hcs with
            | cons r2 hcs => cases hcs with
              | nil =>
                simp only [AtR] at r1 r2; subst r1 r2
                have hsame : (Op.equal t (.agg #[.int k1 m, .int k2 n]) ent.key).run P w = .ok b w := by
                  rw [hkey, hbb]
                  exact run_pairEq hp k1 k2 m n m' n' 9998 w
                rw [hq] at h
                cases b with
                | true =>
                  simp at h; subst h
                  have hmn : m = m' ∧ n = n' := by simpa using hbb.symm
                  obtain ⟨rfl, rfl⟩ := hmn
                  exact ⟨some (i, ent.val), by simp [Instr.findAsking, hsame, Result.andThen], Nat.le_refl _, ent, by simp, hv, rfl, hkey⟩
                | false =>
                  simp at h
                  obtain ⟨r', h1, h2⟩ := ih es (i + 1) r h hes
                  refine ⟨r', by simp [Instr.findAsking, hsame, h1, Result.andThen], ?_⟩
                  cases r with
                  | none => exact h2
                  | some p =>
                    obtain ⟨j, a⟩ := p
                    obtain ⟨h3, e', h4, h5, h6⟩ := h2
                    exact ⟨by omega, e', by rw [show j - i = (j - (i + 1)) + 1 from by omega]; simpa using h4, h5, h6⟩

/-- A key is looked for. -/
theorem find_sound {c : Cx} {t : Nat} {kv : AV} (hk : keyOk P t kv = true) {x : Value} (hx : AvR c kv x) {k : List At} (hc : cellsOf kv = some k) {l : List (List At × Bool × At)} {es : List MapEntry} (hes : All2 (EntR c) l es) {r : Option (Nat × At)} (h : findA k (isAggV kv) l 0 = some r) (w : World) :
    ∃ r', (Instr.findKey t x es).run P w = .ok r' w ∧ FndR c x es r r' := by
  have fin : ∀ {r : Option (Nat × At)} {r' : Option (Nat × Value)}, (match r with | none => r' = none | some (j, a) => 0 ≤ j ∧ ∃ e, es[j - 0]? = some e ∧ AtR c a e.val ∧ r' = some (j, e.val) ∧ e.key = x) → FndR c x es r r' := by
    intro r r' h
    cases r with
    | none => exact h
    | some p => obtain ⟨j, a⟩ := p; obtain ⟨_, e, h1, h2, h3, h4⟩ := h; exact ⟨e, h1, h2, h3, h4⟩
  rcases keyOk_cases hk with ⟨hu, s, rfl⟩ | ⟨k1, k2, m, n, rfl, hp⟩
  · obtain ⟨u, rfl, hu'⟩ : ∃ u, x = .string u ∧ strL u = s := hx
    simp [cellsOf] at hc; subst hc
    obtain ⟨r', h1, h2⟩ := find_str hu' l es 0 r h hes
    exact ⟨r', MapKept.run_findKey hu h1, fin h2⟩
  · obtain ⟨cs, rfl, hcs⟩ : ∃ cs, x = .agg cs ∧ All2 (AtR c) [.int k1 m, .int k2 n] cs.toList := hx
    simp [cellsOf] at hc; subst hc
    obtain ⟨cl⟩ := cs
    cases hcs with
    | cons r1 hcs => cases hcs with
      | cons r2 hcs => cases hcs with
        | nil =>
          simp only [AtR] at r1 r2; subst r1 r2
          obtain ⟨r', h1, h2⟩ := find_pair hp w l es 0 r h hes
          obtain ⟨fs, f, g, q, q', hu, _⟩ := hp; exact ⟨r', by rw [run_findKey_eq w (by simp [hu])]; exact h1, fin h2⟩

theorem All2.setNth {α β : Type} {r : α → β → Prop} : ∀ {l : List α} {m : List β} (_ : All2 r l m) (i : Nat) (x : α) (y : β), r x y → All2 r (setNth l i x) (m.set i y)
  | _, _, .nil, _, _, _, _ => .nil
  | _, _, .cons _ h, 0, x, y, hr => by simp only [Ev.setNth, List.set_cons_zero]; exact .cons hr h
  | _, _, .cons h0 h, i + 1, x, y, hr => by simp only [Ev.setNth, List.set_cons_succ]; exact .cons h0 (h.setNth i x y hr)

theorem stays {t : Nat} {kv : AV} (hk : keyOk P t kv = true) {c : Cx} {x : Value} (hx : AvR c kv x) (w : World) : (Instr.keyThatStays x x).run P w = .ok x w := by
  have : Instr.sameBits 10000 x x = true := by
    rcases keyOk_cases hk with ⟨hu, s, rfl⟩ | ⟨k1, k2, m, n, rfl, hp⟩
    · obtain ⟨u, rfl, hu'⟩ : ∃ u, x = .string u ∧ strL u = s := hx
      exact (MapKept.bytes_beq u u).2 rfl
    · obtain ⟨cs, rfl, hcs⟩ : ∃ cs, x = .agg cs ∧ All2 (AtR c) [.int k1 m, .int k2 n] cs.toList := hx
      obtain ⟨cl⟩ := cs
      cases hcs with
      | cons r1 hcs => cases hcs with
        | cons r2 hcs => cases hcs with
          | nil =>
            simp only [AtR] at r1 r2; subst r1 r2
            have key : ∀ d, (∀ k x, Instr.sameBits d (.int k x) (.int k x) = true) → Instr.sameBits (d + 1) (.agg #[.int k1 m, .int k2 n]) (.agg #[.int k1 m, .int k2 n]) = true := by
              intro d hd; simp [Instr.sameBits, hd]
            exact key 9999 (by intro k x; simp [Instr.sameBits])
  simp [Instr.keyThatStays, this]

/-- The map's object, as it stands. -/
theorem R.map {c : Cx} {h : HF} {w : World} (r : R c h w) {b : Nat} {l : List (List At × Bool × At)} (hb : h b = some (.map l)) : ∃ p es ck, c b = some p ∧ w.heap[p.b]? = some (.map es ck) ∧ All2 (EntR c) l es.toList ∧ ck = es.size ∧ (∀ (i : Nat) (x : MapEntry), es[i]? = some x → x.born = i) := by
  obtain ⟨p, hp, es, ck, h1, h2, h3, h4⟩ := r.blk b _ hb
  exact ⟨p, es, ck, hp, h1, h2, h3, h4⟩

theorem setObj_heap {w : World} {r x : Nat} {o : Obj} (hr : r < w.heap.size) : (w.heap.setIfInBounds r o)[x]? = if x = r then some o else w.heap[x]? := by
  by_cases h : x = r
  · subst h; simp [hr]
  · simp [h, Array.getElem?_setIfInBounds_ne (fun e => h e.symm)]

/-- A map's object is set anew. -/
theorem Mv.setMap {c : Cx} {h : Hp} {w : World} (r : R c h.get w) {b : Nat} {l l' : List (List At × Bool × At)} (hb : h.get b = some (.map l)) {p : Pl} (hp : c b = some p) {es : Array MapEntry} (h2 : All2 (EntR c) l' es.toList) (h4 : ∀ (i : Nat) (x : MapEntry), es[i]? = some x → x.born = i) :
    Mv c h.get w c (h.set b (.map l')).get { w with heap := w.heap.setIfInBounds p.b (.map es es.size) } := by
  have hlt := r.lt hb hp
  refine Mv.upd r hb hp (B' := .map l') ⟨es, es.size, ?_, h2, rfl, h4⟩ (fun x hx => ?_) (by simp) (get_set_cases _ _ _)
  · show (w.heap.setIfInBounds p.b _)[p.b]? = _
    rw [setObj_heap hlt, if_pos rfl]
  · show (w.heap.setIfInBounds p.b _)[x]? = _
    rw [setObj_heap hlt, if_neg hx]

/-- What an operation that acts leads to. -/
def Acts (P : Program) (c : Cx) (h : Hp) (nx : Nat) (o : Oper) (a : Act) (w : World) (v : AV) (h' : Hp) (nx' : Nat) : Prop :=
  ∃ c' w', Mv c h.get w c' h'.get w' ∧ Gr c nx c' nx' ∧ ((∃ x, (execOp a.eval o).run P w = .ok (.value x) w' ∧ AvR c' v x) ∨ ((execOp a.eval o).run P w = .ok .skip w' ∧ v = .tup []))

section maps
variable {c : Cx} {tm : T AV} {a : Act} {o : Oper} {v : AV} {h : Hp} {w : World} {nx : Nat}

theorem tZero1_sound {t : Nat} {z : At} (h : tZero1 P t = some z) : ∃ v, (∀ w, (zeroValue t).run P w = .ok v w) ∧ ∀ c, AtR c z v := by
  simp only [tZero1, Option.bind_eq_some_iff] at h
  obtain ⟨i, hi, v, hv, hz⟩ := h
  exact ⟨v, fun w => run_zero hi hv w, fun c => atOf_sound hz⟩

theorem read_lookup (ht : TmR c tm a.tmps) (r : R c h.get w) {t kt e : Nat} {x ix : Operand} (ho : o.op = .lookup t x ix false) (hu : P.underlying t = some (.map kt e)) {b : Nat} {kv : AV} (hx : opnd tm x = some (.at (.mp b))) (hi : opnd tm ix = some kv) (hk : keyOk P kt kv = true)
    {l : List (List At × Bool × At)} (hb : h.get b = some (.map l)) {k : List At} (hc : cellsOf kv = some k) {res : Option (Nat × At)} (hf : findA k (isAggV kv) l 0 = some res) {y : At}
    (hy : (∃ i, res = some (i, y)) ∨ (res = none ∧ tZero1 P e = some y)) : YlW P c o a (.at y) w := by
  obtain ⟨p, hp, e1⟩ : ∃ p, c b = some p ∧ a.eval x = .map (some p.b) := opnd_sound ht hx
  obtain ⟨q, es, ck, hq, h1, h2, h3, h4⟩ := r.map hb
  rw [hp] at hq; cases hq
  have hkx := opnd_sound ht hi
  obtain ⟨r', hr1, hr2⟩ := find_sound hk hkx hc h2 hf w
  have hck := run_checkKey2 (P := P) hk hkx es.isEmpty w
  rcases hy with ⟨i, rfl⟩ | ⟨rfl, hz⟩
  · obtain ⟨ent, g1, g2, rfl, g3⟩ := hr2
    refine ⟨ent.val, ?_, g2⟩
    simp only [execOp, ho, Instr.lookup, e1, Sem.run_bind, run_underlying hu, Result.andThen_ok, MapKept.run_getObj_map h1, Sem.run_pure, hck, hr1]
    rfl
  · have : r' = none := hr2
    subst this
    obtain ⟨v0, hz1, hz2⟩ := tZero1_sound hz
    refine ⟨v0, ?_, hz2 c⟩
    simp only [execOp, ho, Instr.lookup, e1, Sem.run_bind, run_underlying hu, Result.andThen_ok, MapKept.run_getObj_map h1, Sem.run_pure, hck, hr1, hz1]
    rfl

theorem read_lenMap (ht : TmR c tm a.tmps) (r : R c h.get w) {x : Operand} {t kt e : Nat} {args : Array Operand} {ats : Array Nat} (ho : o.op = .call { callee := .builtin .len, args := args, argTypes := ats }) (h1 : args.toList = [x]) (h2 : ats[0]? = some t)
    (hu : P.underlying t = some (.map kt e)) {b : Nat} (hx : opnd tm x = some (.at (.mp b))) {l : List (List At × Bool × At)} (hb : h.get b = some (.map l)) : YlW P c o a (.at (.int .i64 l.length)) w := by
  have e1 : args = #[x] := by cases args; simpa using h1
  subst e1
  obtain ⟨p, hp, e1⟩ : ∃ p, c b = some p ∧ a.eval x = .map (some p.b) := opnd_sound ht hx
  obtain ⟨q, es, ck, hq, g1, g2, g3, g4⟩ := r.map hb
  rw [hp] at hq; cases hq
  have := g2.length
  simp only [Array.length_toList] at this
  refine ⟨.int .i64 es.size, ?_, by rw [this]; rfl⟩
  simp [execOp, ho, resolve, invoke, builtin, Builtin.len_, h2, run_underlying hu, e1, goInt, MapKept.run_getObj_map g1, Result.andThen]

theorem read_sliceArray (ht : TmR c tm a.tmps) (r : R c h.get w) {t e n : Nat} {x : Operand} {lo hi : Option Operand} (ho : o.op = .slice t x lo hi none) (hu : P.underlying t = some (.array n e)) {b off z L H : Nat}
    (hx : opnd tm x = some (.at (.ptr b off))) (hz : tSize P e = some z) (hh : optInt tm hi n = some H) (hl : optInt tm lo 0 = some L) (h1 : H ≤ n) (h2 : L ≤ H) {ct : T At} {bn : Nat} {ty : Ty} (hb : h.get b = some (.cells ct bn ty)) (hfit : off + n * z ≤ bn) :
    YlW P c o a (.at (.slc b (off + L * z) (H - L) (n - L) z true)) w := by
  obtain ⟨x', hx', hr⟩ := pure_sliceArray (P := P) (c := c) ht ho hu hx hz hh hl h1 h2 (by
    intro p hp
    obtain ⟨q, cs, e, fr, hq, g1, g2, g3, _⟩ := r.cells hb
    rw [hp] at hq; cases hq
    omega)
  exact ⟨x', hx' w, hr⟩

theorem bytesOk_all : ∀ (l : List Nat), bytesOk l = true → ∀ n ∈ l, n < 256 := by
  intro l
  induction l with
  | nil => intro _ n hn; cases hn
  | cons x l ih =>
    intro h n hn
    simp only [bytesOk, blt_dec] at h
    by_cases hx : x < 256
    · simp only [hx, decide_true, cond_true] at h
      rcases List.mem_cons.1 hn with rfl | hn
      · exact hx
      · exact ih h n hn
    · simp [hx] at h

theorem read_sound (ht : TmR c tm a.tmps) (r : R c h.get w) (hv : readOp P o tm h = some v) : YlW P c o a v w := by
  have pu : pureOp P o tm = some v → YlW P c o a v w := fun h' => let ⟨x, h1, h2⟩ := pure_sound ht h'; ⟨x, h1 w, h2⟩
  unfold readOp at hv
  split at hv
  case h_1 t x lo hi mx ho =>
    split at hv
    · rename_i n e b off hu hx
      split at hv
      · rename_i hh lo' s ct bn ty h1 h2 h3 h4
        simp only [ble_dec] at hv
        by_cases g1 : hh ≤ n
        case neg => simp [g1] at hv
        by_cases g2 : lo' ≤ hh
        case neg => simp [g1, g2] at hv
        by_cases g3 : off + n * s ≤ bn
        case neg => simp [g1, g2, g3] at hv
        simp [g1, g2, g3] at hv; subst hv
        exact read_sliceArray ht r ho hu hx h3 h1 h2 g1 g2 h4 g3
      · cases hv
    · exact pu hv
  case h_2 t x ho =>
    split at hv
    · rename_i b off hx hg
      split at hv
      · rename_i y hy; simp at hv; subst hv; exact read_load1 ht r ho hx hg hy
      · cases hv
    · rename_i b off hx hg
      split at hv
      · rename_i n hn
        split at hv
        · rename_i l hl; simp at hv; subst hv; exact read_loadN ht r ho hx hg hn hl
        · cases hv
      · cases hv
    · cases hv
  case h_3 s d x ho =>
    split at hv
    · rename_i e b off l k z ex hs hd hx
      split at hv
      · rename_i cs he hl
        split at hv
        · rename_i t htb
          cases hok : bytesOk t with
          | false => simp [hok] at hv
          | true => simp [hok] at hv; subst hv; exact read_bytes ht r ho hs he hd hx hl htb (bytesOk_all _ hok)
        · cases hv
      · cases hv
    · rename_i e hs hd hx
      split at hv
      · rename_i he; simp at hv; subst hv; exact read_bytesNil ht ho hs he hd hx
      · cases hv
    · exact pu hv
  case h_4 t x ix ho =>
    split at hv
    · rename_i kt e b kv hu hx hi
      cases hk : keyOk P kt kv with
      | false => simp [hk] at hv
      | true =>
        simp only [hk, cond_true] at hv
        split at hv
        · rename_i l k hb hc
          split at hv
          · rename_i i y hf; simp at hv; subst hv; exact read_lookup ht r ho hu hx hi hk hb hc hf (.inl ⟨i, rfl⟩)
          · rename_i hf
            split at hv
            · rename_i z hz; simp at hv; subst hv; exact read_lookup ht r ho hu hx hi hk hb hc hf (.inr ⟨rfl, hz⟩)
            · cases hv
          · cases hv
        · cases hv
    · cases hv
  case h_5 args ats ho =>
    split at hv
    · rename_i x kt e h1 hu
      simp only [Option.bind_eq_some_iff] at hu
      obtain ⟨t, ht', hu⟩ := hu
      split at hv
      · rename_i b hx
        split at hv
        · rename_i l hb; simp at hv; subst hv; exact read_lenMap ht r ho h1 ht' hu hx hb
        · cases hv
      · cases hv
    · exact pu hv
  case h_6 => exact pu hv

end maps

end Go.Proofs.YtljkldmjakabdaaGreat.Ev

