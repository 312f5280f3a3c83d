/- Plain: who is in one orbit; the least of an orbit; how many orbits begin below a number. -/
import Derived.Test.YtoipbbobkllddaaOrbP
namespace Go.Proofs.Ytoipbbobkllddaa

/-- y is reached from x -/
def Rch (xs : List Int) (x y : Nat) : Prop := ∃ k, walkN xs x k = y

theorem walkN_add (xs : List Int) (x a : Nat) : ∀ b, walkN xs x (a + b) = walkN xs (walkN xs x a) b
  | 0 => rfl
  | b + 1 => by
    show toN xs (walkN xs x (a + b)) = toN xs (walkN xs (walkN xs x a) b)
    rw [walkN_add xs x a b]

theorem Rch.refl (xs : List Int) (x : Nat) : Rch xs x x := ⟨0, rfl⟩
theorem Rch.trans {xs : List Int} {x y z : Nat} (h : Rch xs x y) (k : Rch xs y z) : Rch xs x z := by
  obtain ⟨a, rfl⟩ := h
  obtain ⟨b, rfl⟩ := k
  exact ⟨a + b, walkN_add xs x a b⟩

theorem walkN_mul {xs : List Int} {x T : Nat} (h : walkN xs x T = x) : ∀ m, walkN xs x (m * T) = x
  | 0 => by rw [Nat.zero_mul]; rfl
  | m + 1 => by rw [Nat.succ_mul, walkN_add, walkN_mul h m, h]

theorem walkN_mod {xs : List Int} {x T : Nat} (h : walkN xs x T = x) (k : Nat) : walkN xs x k = walkN xs x (k % T) := by
  have e : k = (k / T) * T + k % T := by rw [Nat.mul_comm]; exact (Nat.div_add_mod k T).symm
  rw [e, walkN_add, walkN_mul h, ← e]

theorem Rch.symm {xs : List Int} (hp : IsPerm xs) {x y : Nat} (hx : x < xs.length) (h : Rch xs x y) : Rch xs y x := by
  obtain ⟨k, rfl⟩ := h
  obtain ⟨h1, h2, h3, _⟩ := perN_spec hp hx
  refine ⟨k * perN xs x - k, ?_⟩
  rw [← walkN_add]
  have : k ≤ k * perN xs x := Nat.le_mul_of_pos_right _ h1
  rw [show k + (k * perN xs x - k) = k * perN xs x by omega]
  exact walkN_mul h3 k

theorem Rch.lt {xs : List Int} (hp : IsPerm xs) {x y : Nat} (hx : x < xs.length) (h : Rch xs x y) : y < xs.length := by
  obtain ⟨k, rfl⟩ := h
  exact walkN_lt hp hx k

theorem mem_orbN {xs : List Int} (hp : IsPerm xs) {x : Nat} (hx : x < xs.length) (y : Nat) : y ∈ orbN xs x ↔ Rch xs x y := by
  obtain ⟨h1, h2, h3, _⟩ := perN_spec hp hx
  unfold orbN
  rw [List.mem_map]
  constructor
  · rintro ⟨k, _, rfl⟩; exact ⟨k, rfl⟩
  · rintro ⟨k, rfl⟩
    exact ⟨k % perN xs x, List.mem_range.2 (Nat.mod_lt _ h1), (walkN_mod h3 k).symm⟩

theorem orbN_nodup {xs : List Int} (hp : IsPerm xs) {x : Nat} (hx : x < xs.length) : (orbN xs x).Nodup := by
  obtain ⟨h1, h2, h3, h4⟩ := perN_spec hp hx
  unfold orbN
  unfold List.Nodup
  rw [List.pairwise_map]
  rw [List.pairwise_iff_getElem]
  intro i j hi hj hij he
  simp only [List.length_range] at hi hj
  simp only [List.getElem_range] at he
  have := walkN_back hp hx i (j - i) (by rw [show i + (j - i) = j by omega]; exact he)
  exact h4 (j - i) (by omega) (by omega) this

theorem orbN_get0 {xs : List Int} (hp : IsPerm xs) {x : Nat} (hx : x < xs.length) : (orbN xs x)[0]? = some x := by
  have h1 := (perN_spec hp hx).1
  unfold orbN
  rw [List.getElem?_map, List.getElem?_range h1]; rfl

theorem least_rch (xs : List Int) (x : Nat) : ∃ m, Rch xs x m ∧ ∀ t, Rch xs x t → m ≤ t := by
  obtain ⟨m, h1, h2, h3⟩ := least_of (P := fun t => Rch xs x t) x (Rch.refl xs x)
  refine ⟨m, h2, fun t ht => ?_⟩
  rcases Nat.lt_or_ge t m with h | h
  · exact absurd ht (h3 t h)
  · exact h

open Classical in
/-- the least of an orbit -/
noncomputable def leadN (xs : List Int) (x : Nat) : Nat := Classical.choose (least_rch xs x)
theorem leadN_rch (xs : List Int) (x : Nat) : Rch xs x (leadN xs x) := (Classical.choose_spec (least_rch xs x)).1
theorem leadN_le (xs : List Int) (x : Nat) {t : Nat} (h : Rch xs x t) : leadN xs x ≤ t := (Classical.choose_spec (least_rch xs x)).2 t h
theorem leadN_le_self (xs : List Int) (x : Nat) : leadN xs x ≤ x := leadN_le xs x (Rch.refl xs x)

theorem leadN_congr {xs : List Int} (hp : IsPerm xs) {x y : Nat} (hx : x < xs.length) (h : Rch xs x y) : leadN xs y = leadN xs x := by
  have h2 := h.symm hp hx
  exact Nat.le_antisymm (leadN_le xs y (h2.trans (leadN_rch xs x))) (leadN_le xs x (h.trans (leadN_rch xs y)))

theorem leadN_idem {xs : List Int} (hp : IsPerm xs) {x : Nat} (hx : x < xs.length) : leadN xs (leadN xs x) = leadN xs x := leadN_congr hp hx (leadN_rch xs x)

theorem rch_of_lead {xs : List Int} (hp : IsPerm xs) {x y : Nat} (hx : x < xs.length) (hy : y < xs.length) (h : leadN xs y = leadN xs x) : Rch xs x y := by
  have h1 := leadN_rch xs y
  have h2 := leadN_rch xs x
  rw [← h] at h2
  exact h2.trans (h1.symm hp hy)

theorem mem_orb_lead {xs : List Int} (hp : IsPerm xs) {i y : Nat} (hi : i < xs.length) (hy : y < xs.length) (hl : leadN xs i = i) : y ∈ orbN xs i ↔ leadN xs y = i := by
  rw [mem_orbN hp hi]
  constructor
  · intro h; rw [leadN_congr hp hi h, hl]
  · intro h; exact rch_of_lead hp hi hy (by rw [h, hl])

open Classical in
/-- how many orbits begin below i -/
noncomputable def rankN (xs : List Int) : Nat → Nat
  | 0 => 0
  | i + 1 => rankN xs i + (if leadN xs i = i then 1 else 0)

theorem rankN_succ_lead {xs : List Int} {i : Nat} (h : leadN xs i = i) : rankN xs (i + 1) = rankN xs i + 1 := by
  show rankN xs i + _ = _
  rw [if_pos h]
theorem rankN_succ_not {xs : List Int} {i : Nat} (h : leadN xs i ≠ i) : rankN xs (i + 1) = rankN xs i := by
  show rankN xs i + _ = _
  rw [if_neg h]; rfl
theorem rankN_mono (xs : List Int) (i : Nat) : ∀ d, rankN xs i ≤ rankN xs (i + d)
  | 0 => Nat.le_refl _
  | d + 1 => Nat.le_trans (rankN_mono xs i d) (by
    show rankN xs (i + d) ≤ rankN xs (i + d) + _
    exact Nat.le_add_right _ _)
theorem rankN_le (xs : List Int) : ∀ i, rankN xs i ≤ i
  | 0 => Nat.le_refl _
  | i + 1 => by
    show rankN xs i + _ ≤ _
    have := rankN_le xs i
    split <;> omega
theorem rankN_lt {xs : List Int} {l i : Nat} (h : leadN xs l = l) (hli : l < i) : rankN xs l < rankN xs i := by
  have h1 := rankN_mono xs (l + 1) (i - (l + 1))
  rw [show l + 1 + (i - (l + 1)) = i by omega, rankN_succ_lead h] at h1
  omega

/-- what stands in the names when the orbits that begin below i are named -/
noncomputable def nameN (xs : List Int) (i x : Nat) : Int := if leadN xs x < i then (rankN xs (leadN xs x) : Int) else -1

theorem nameN_neg (xs : List Int) (i : Nat) : (0 ≤ nameN xs i i) ↔ leadN xs i ≠ i := by
  unfold nameN
  have := leadN_le_self xs i
  split
  · constructor
    · intro _; omega
    · intro _; omega
  · constructor
    · intro h; omega
    · intro h; omega

theorem nameN_step_not {xs : List Int} (hp : IsPerm xs) {i : Nat} (h : leadN xs i ≠ i) {x : Nat} (hx : x < xs.length) : nameN xs (i + 1) x = nameN xs i x := by
  unfold nameN
  have : leadN xs x ≠ i := by
    intro e
    have h1 := leadN_idem hp hx
    rw [e] at h1
    exact h h1
  by_cases hl : leadN xs x < i
  · rw [if_pos hl, if_pos (by omega)]
  · rw [if_neg hl, if_neg (by omega)]

theorem nameN_step_lead {xs : List Int} (hp : IsPerm xs) {i : Nat} (hi : i < xs.length) (h : leadN xs i = i) {x : Nat} (hx : x < xs.length) : nameN xs (i + 1) x = if x ∈ orbN xs i then (rankN xs i : Int) else nameN xs i x := by
  unfold nameN
  by_cases hm : x ∈ orbN xs i
  · rw [if_pos hm]
    rw [mem_orb_lead hp hi hx h] at hm
    rw [hm, if_pos (by omega)]
  · rw [if_neg hm]
    rw [mem_orb_lead hp hi hx h] at hm
    by_cases hl : leadN xs x < i
    · rw [if_pos hl, if_pos (by omega)]
    · rw [if_neg hl, if_neg (by omega)]

/-- the names -/
noncomputable def namesN (xs : List Int) : List Int := (List.range xs.length).map fun x => (rankN xs (leadN xs x) : Int)
theorem namesN_len (xs : List Int) : (namesN xs).length = xs.length := by simp [namesN]

theorem nameN_end {xs : List Int} {x : Nat} (hx : x < xs.length) : nameN xs xs.length x = (rankN xs (leadN xs x) : Int) := by
  unfold nameN
  rw [if_pos (Nat.lt_of_le_of_lt (leadN_le_self xs x) hx)]

/-- where the orbits begin, below i -/
noncomputable def leadsN (xs : List Int) : Nat → List Nat
  | 0 => []
  | i + 1 => leadsN xs i ++ (if leadN xs i = i then [i] else [])
theorem leadsN_len (xs : List Int) : ∀ i, (leadsN xs i).length = rankN xs i
  | 0 => rfl
  | i + 1 => by
    show (leadsN xs i ++ _).length = rankN xs i + _
    rw [List.length_append, leadsN_len xs i]
    split <;> rfl
theorem leadsN_succ_lead {xs : List Int} {i : Nat} (h : leadN xs i = i) : leadsN xs (i + 1) = leadsN xs i ++ [i] := by
  show leadsN xs i ++ _ = _
  rw [if_pos h]
theorem leadsN_succ_not {xs : List Int} {i : Nat} (h : leadN xs i ≠ i) : leadsN xs (i + 1) = leadsN xs i := by
  show leadsN xs i ++ _ = _
  rw [if_neg h, List.append_nil]

theorem leadsN_mem {xs : List Int} : ∀ {i : Nat} {j : Nat}, j ∈ leadsN xs i → j < i ∧ leadN xs j = j
  | 0, j, h => by cases h
  | i + 1, j, h => by
    by_cases hl : leadN xs i = i
    · rw [leadsN_succ_lead hl] at h
      rcases List.mem_append.1 h with h | h
      · have := leadsN_mem h; exact ⟨by omega, this.2⟩
      · simp at h; subst h; exact ⟨by omega, hl⟩
    · rw [leadsN_succ_not hl] at h
      have := leadsN_mem h; exact ⟨by omega, this.2⟩

theorem leadsN_get {xs : List Int} : ∀ {i k : Nat} {j : Nat}, (leadsN xs i)[k]? = some j → rankN xs j = k
  | 0, k, j, h => by simp [leadsN] at h
  | i + 1, k, j, h => by
    by_cases hl : leadN xs i = i
    · rw [leadsN_succ_lead hl] at h
      rcases Nat.lt_or_ge k (leadsN xs i).length with hk | hk
      · rw [List.getElem?_append_left hk] at h; exact leadsN_get h
      · rw [List.getElem?_append_right hk] at h
        rcases Nat.eq_zero_or_pos (k - (leadsN xs i).length) with h0 | h0
        · rw [h0] at h; simp at h; subst h; rw [← leadsN_len]; omega
        · rw [List.getElem?_eq_none (by simp; omega)] at h; cases h
    · rw [leadsN_succ_not hl] at h; exact leadsN_get h

/-- a name is the count just if an orbit begins there -/
theorem name_is_count {xs : List Int} (hp : IsPerm xs) {i : Nat} (hi : i < xs.length) : rankN xs (leadN xs i) = rankN xs i ↔ leadN xs i = i := by
  constructor
  · intro h
    apply Classical.byContradiction
    intro hne
    have h1 := rankN_lt (leadN_idem hp hi) (i := i) (by have := leadN_le_self xs i; omega)
    omega
  · intro h; rw [h]

/-- the sizes of the orbits that begin below i are as many as have a name -/
theorem sizes_below {xs : List Int} (hp : IsPerm xs) : ∀ i, i ≤ xs.length → ((leadsN xs i).map (perN xs)).sum = ((List.range xs.length).filter fun x => decide (leadN xs x < i)).length
  | 0, _ => by
    rw [List.filter_eq_nil_iff.2 (by simp)]; rfl
  | i + 1, h => by
    have ih := sizes_below hp i (by omega)
    by_cases hl : leadN xs i = i
    · rw [leadsN_succ_lead hl, List.map_append, List.sum_append, ih]
      have h1 : (orbN xs i).Perm ((List.range xs.length).filter fun x => decide (leadN xs x = i)) := by
        refine (List.perm_ext_iff_of_nodup (orbN_nodup hp (by omega)) ?_).2 ?_
        · exact List.Nodup.sublist List.filter_sublist List.nodup_range
        · intro y
          simp only [List.mem_filter, List.mem_range, decide_eq_true_eq]
          constructor
          · intro hy
            have hylt := Rch.lt hp (by omega) ((mem_orbN hp (by omega) y).1 hy)
            exact ⟨hylt, (mem_orb_lead hp (by omega) hylt hl).1 hy⟩
          · rintro ⟨h2, h3⟩
            exact (mem_orb_lead hp (by omega) h2 hl).2 h3
      have h2 := h1.length_eq
      rw [orbN_len] at h2
      simp only [List.map_cons, List.map_nil, List.sum_cons, List.sum_nil, Nat.add_zero]
      rw [h2]
      exact split_len (List.range xs.length) (leadN xs) i
    · rw [leadsN_succ_not hl, ih]
      congr 1
      refine List.filter_congr fun x hx => ?_
      have : leadN xs x ≠ i := by
        intro e
        have h1 := leadN_idem hp (List.mem_range.1 hx)
        rw [e] at h1; exact hl h1
      by_cases hc : leadN xs x < i
      · rw [decide_eq_true hc, decide_eq_true (by omega)]
      · rw [decide_eq_false hc, decide_eq_false (by omega)]
where
  split_len (L : List Nat) (f : Nat → Nat) (i : Nat) : (L.filter fun x => decide (f x < i)).length + (L.filter fun x => decide (f x = i)).length = (L.filter fun x => decide (f x < i + 1)).length := by
    induction L with
    | nil => rfl
    | cons a L ih =>
      simp only [List.filter_cons, decide_eq_true_eq]
      by_cases h1 : f a < i
      · rw [if_pos h1, if_neg (by omega), if_pos (by omega), List.length_cons, List.length_cons]; omega
      · by_cases h2 : f a = i
        · rw [if_neg h1, if_pos h2, if_pos (by omega), List.length_cons, List.length_cons]; omega
        · rw [if_neg h1, if_neg h2, if_neg (by omega)]; omega

theorem sizes_all {xs : List Int} (hp : IsPerm xs) : ((leadsN xs xs.length).map (perN xs)).sum = xs.length := by
  rw [sizes_below hp _ (Nat.le_refl _)]
  rw [List.filter_eq_self.2]
  · simp
  · intro x hx
    have := List.mem_range.1 hx
    have := leadN_le_self xs x
    simp; omega
end Go.Proofs.Ytoipbbobkllddaa

