/- Plain: permutations that keep mates. -/
import Derived.Test.YtoipbbobkllddaaPermOf
namespace Go.Proofs.Ytoipbbobkllddaa

/-- the other end of an edge -/
def mateI (x : Int) : Int := if x % 2 = 0 then x + 1 else x - 1

theorem mate_mate (x : Int) : mateI (mateI x) = x := by
  unfold mateI
  by_cases h : x % 2 = 0
  · rw [if_pos h, if_neg (by omega)]; omega
  · rw [if_neg h, if_pos (by omega)]; omega

/-- does a list take mates to mates, so far as e edges go? -/
def MatesTo (xs : List Int) (e : Nat) : Prop := ∀ j, j < e → xs.getD (2 * j + 1) 0 = mateI (xs.getD (2 * j) 0)

def Mates (xs : List Int) : Prop := IsPerm xs ∧ xs.length % 2 = 0 ∧ ∀ d, d < xs.length → xs.getD (mateI d).toNat 0 = mateI (xs.getD d 0)

theorem mates_iff (xs : List Int) (hp : IsPerm xs) (h2 : xs.length % 2 = 0) : Mates xs ↔ MatesTo xs (xs.length / 2) := by
  constructor
  · rintro ⟨_, _, h⟩ j hj
    have := h (2 * j) (by omega)
    rw [show (mateI ((2 * j : Nat) : Int)).toNat = 2 * j + 1 by unfold mateI; rw [if_pos (by omega)]; omega] at this
    exact this
  · intro h
    refine ⟨hp, h2, fun d hd => ?_⟩
    by_cases hd2 : d % 2 = 0
    · have := h (d / 2) (by omega)
      rw [show 2 * (d / 2) = d by omega] at this
      rw [show (mateI (d : Int)).toNat = d + 1 by unfold mateI; rw [if_pos (by omega)]; omega]
      exact this
    · have := h (d / 2) (by omega)
      rw [show 2 * (d / 2) + 1 = d by omega] at this
      rw [show (mateI (d : Int)).toNat = 2 * (d / 2) by unfold mateI; rw [if_neg (by omega)]; omega, this, mate_mate]

/-- how often a number stands in a list -/
def countI (xs : List Int) (x : Int) : Nat := (xs.filter fun y => decide (y = x)).length

theorem countI_snoc (xs : List Int) (y x : Int) : countI (xs ++ [y]) x = countI xs x + if y = x then 1 else 0 := by
  unfold countI
  rw [List.filter_append, List.length_append]
  congr 1
  by_cases h : y = x <;> simp [h]

theorem countI_cons (xs : List Int) (y x : Int) : countI (y :: xs) x = countI xs x + if y = x then 1 else 0 := by
  unfold countI
  by_cases h : y = x <;> simp [h]

theorem countI_zero {xs : List Int} {x : Int} : countI xs x = 0 ↔ x ∉ xs := by
  induction xs with
  | nil => simp [countI]
  | cons y xs ih =>
    rw [countI_cons]
    by_cases h : y = x
    · subst h; simp
    · simp [h, ih]; exact fun _ e => h e.symm

theorem countI_nodup {xs : List Int} (h : xs.Nodup) (x : Int) : countI xs x ≤ 1 := by
  induction xs with
  | nil => simp [countI]
  | cons y xs ih =>
    rw [List.nodup_cons] at h
    rw [countI_cons]
    have := ih h.2
    by_cases hy : y = x
    · subst hy
      have := countI_zero.2 h.1
      simp; omega
    · simp [hy]; omega

/-- the sum of the counts is the length, where all lie below m -/
def sumC (xs : List Int) : Nat → Nat
  | 0 => 0
  | m + 1 => sumC xs m + countI xs m

theorem sumC_nil : ∀ m, sumC [] m = 0
  | 0 => rfl
  | m + 1 => by unfold sumC; rw [sumC_nil m]; rfl

theorem sumC_cons (xs : List Int) (y : Int) : ∀ m, sumC (y :: xs) m = sumC xs m + if 0 ≤ y ∧ y < (m : Int) then 1 else 0
  | 0 => by unfold sumC; rw [if_neg (by omega)]
  | m + 1 => by
    unfold sumC
    rw [sumC_cons xs y m, countI_cons]
    by_cases h1 : 0 ≤ y ∧ y < (m : Int)
    · rw [if_pos h1, if_neg (by omega), if_pos (by omega)]; omega
    · rw [if_neg h1]
      by_cases h2 : y = (m : Int)
      · rw [if_pos h2, if_pos (by omega)]; omega
      · rw [if_neg h2, if_neg (by omega)]; omega

theorem sumC_all (xs : List Int) (m : Nat) : sumC xs m ≤ xs.length ∧ (sumC xs m = xs.length → ∀ x ∈ xs, 0 ≤ x ∧ x < (m : Int)) ∧ ((∀ x ∈ xs, 0 ≤ x ∧ x < (m : Int)) → sumC xs m = xs.length) := by
  induction xs with
  | nil => rw [sumC_nil]; simp
  | cons y xs ih =>
    obtain ⟨h1, h2, h3⟩ := ih
    rw [sumC_cons, List.length_cons]
    refine ⟨by split <;> omega, fun h x hx => ?_, fun h => ?_⟩
    · by_cases hy : 0 ≤ y ∧ y < (m : Int)
      · rw [if_pos hy] at h
        rcases List.mem_cons.1 hx with rfl | hx
        · exact hy
        · exact h2 (by omega) x hx
      · rw [if_neg hy] at h; omega
    · rw [if_pos (h y (by simp)), h3 (fun x hx => h x (by simp [hx]))]

theorem nodup_of_counts {xs : List Int} (h : ∀ x ∈ xs, countI xs x ≤ 1) : xs.Nodup := by
  induction xs with
  | nil => simp
  | cons y xs ih =>
    rw [List.nodup_cons]
    have hy := h y (by simp)
    rw [countI_cons, if_pos rfl] at hy
    refine ⟨countI_zero.1 (by omega), ih fun x hx => ?_⟩
    have := h x (by simp [hx])
    rw [countI_cons] at this
    omega

/-- the document's test is the program's -/
theorem isPerm_iff (xs : List Int) : IsPerm xs ↔ ∀ i, i < xs.length → countI xs (i : Nat) = 1 := by
  constructor
  · rintro ⟨h1, h2⟩
    have hs := (sumC_all xs xs.length).2.2 h1
    have key : ∀ m, sumC xs m ≤ m ∧ (sumC xs m = m → ∀ i, i < m → countI xs (i : Nat) = 1) := by
      intro m
      induction m with
      | zero => exact ⟨Nat.le_refl _, fun _ i hi => by omega⟩
      | succ m ih =>
        have hc := countI_nodup h2 (m : Nat)
        unfold sumC
        refine ⟨by omega, fun h i hi => ?_⟩
        by_cases him : i = m
        · subst him; omega
        · exact ih.2 (by omega) i (by omega)
    exact (key xs.length).2 hs
  · intro h
    have hs : ∀ m, m ≤ xs.length → sumC xs m = m := by
      intro m
      induction m with
      | zero => intro _; rfl
      | succ m ih => intro hm; unfold sumC; rw [ih (by omega), h m (by omega)]
    have hr := (sumC_all xs xs.length).2.1 (hs _ (Nat.le_refl _))
    refine ⟨hr, nodup_of_counts fun x hx => ?_⟩
    obtain ⟨h1, h2⟩ := hr x hx
    have := h x.toNat (by omega)
    rw [show ((x.toNat : Nat) : Int) = x by omega] at this
    omega
end Go.Proofs.Ytoipbbobkllddaa

