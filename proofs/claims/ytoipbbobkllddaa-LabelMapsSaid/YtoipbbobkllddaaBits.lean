/- Plain lemmas on bits: no program in sight. -/
namespace BitsP

/-- the number of some bits, the lowest first -/
def num : List Bool → Nat
  | [] => 0
  | b :: l => b.toNat + 2 * num l

theorem testBit_num (l : List Bool) : ∀ i, (num l).testBit i = l.getD i false := by
  induction l with
  | nil => intro i; simp [num]
  | cons b l ih =>
    intro i
    cases i with
    | zero => cases b <;> simp [num, Nat.testBit_zero]
    | succ i =>
      rw [Nat.testBit_succ]
      have : (num (b :: l)) / 2 = num l := by simp only [num]; cases b <;> simp <;> omega
      rw [this, ih]; simp

theorem num_lt (l : List Bool) : num l < 2 ^ l.length := by
  induction l with
  | nil => simp [num]
  | cons b l ih =>
    simp only [num, List.length_cons, Nat.pow_succ]
    cases b <;> simp <;> omega

theorem num_inj {l m : List Bool} (hl : l.length = m.length) (h : num l = num m) : l = m := by
  apply List.ext_getElem hl
  intro i h1 h2
  have := testBit_num l i
  rw [h, testBit_num] at this
  simpa [List.getD_eq_getElem?_getD, h1, h2] using this.symm

theorem num_append (l m : List Bool) : num (l ++ m) = num l + 2 ^ l.length * num m := by
  induction l with
  | nil => simp [num]
  | cons b l ih =>
    simp only [List.cons_append, num, ih, List.length_cons, Nat.pow_succ]
    rw [Nat.mul_add, Nat.add_assoc]
    congr 2
    rw [Nat.mul_comm (2 ^ l.length) 2, Nat.mul_assoc]

/-- word number k of the bits -/
def word (l : List Bool) (k : Nat) : Nat := num l / 2 ^ (64 * k) % 2 ^ 64

theorem testBit_word (l : List Bool) (k i : Nat) : (word l k).testBit i = (decide (i < 64) && l.getD (64 * k + i) false) := by
  unfold word
  rw [Nat.testBit_mod_two_pow, Nat.testBit_div_two_pow, testBit_num, Nat.add_comm]

theorem word_lt (l : List Bool) (k : Nat) : word l k < 18446744073709551616 := Nat.mod_lt _ (by decide)

theorem word_past (l : List Bool) (k : Nat) (h : l.length ≤ 64 * k) : word l k = 0 := by
  apply Nat.eq_of_testBit_eq
  intro i
  rw [testBit_word]
  simp [List.getD_eq_getElem?_getD, show l.length ≤ 64 * k + i from by omega]

theorem word_snoc (l : List Bool) (b : Bool) (k : Nat) :
    word (l ++ [b]) k = if k = l.length / 64 then word l k ||| (b.toNat <<< (l.length % 64)) else word l k := by
  apply Nat.eq_of_testBit_eq
  intro i
  have hdiv := Nat.div_add_mod l.length 64
  have key : ∀ j, (l ++ [b]).getD j false = if j = l.length then b else l.getD j false := by
    intro j
    simp only [List.getD_eq_getElem?_getD, List.getElem?_append]
    by_cases h : j < l.length
    · simp [h, show j ≠ l.length from by omega]
    · by_cases h2 : j = l.length
      · simp [h2]
      · simp [h, h2, show ¬ j - l.length = 0 from by omega]
  split
  · rename_i hk
    rw [Nat.testBit_or, testBit_word, testBit_word, key, Nat.testBit_shiftLeft]
    by_cases hi : 64 * k + i = l.length
    · have e1 : i = l.length % 64 := by omega
      have : l.getD l.length false = false := by simp [List.getD_eq_getElem?_getD]
      rw [if_pos hi, hi, this, e1]
      cases b <;> simp <;> omega
    · rw [if_neg hi]
      have : (b.toNat).testBit (i - l.length % 64) = false ∨ ¬ i ≥ l.length % 64 := by
        by_cases h3 : i ≥ l.length % 64
        · left
          have h4 : i - l.length % 64 ≠ 0 := by
            intro h5; apply hi; omega
          cases b
          · simp
          · show Nat.testBit 1 _ = false
            rw [Bool.eq_false_iff]; intro h6
            exact h4 (Nat.testBit_one_eq_true_iff_self_eq_zero.1 h6)
        · right; exact h3
      rcases this with h | h
      · simp [h]
      · simp [h]
  · rename_i hk
    rw [testBit_word, testBit_word, key]
    by_cases hi : 64 * k + i = l.length
    · have : ¬ i < 64 := by omega
      simp [this]
    · rw [if_neg hi]

end BitsP

