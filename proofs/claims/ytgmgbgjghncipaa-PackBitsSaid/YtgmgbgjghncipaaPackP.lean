/- Numbers as bytes, in plain Lean: each number has one row of bytes, none is another's beginning. -/
import Derived.Test.YtgmgbgjghncipaaCoderP
namespace Go.Proofs.Ytgmgbgjghncipaa
namespace PackP

def numB (x : Nat) : List Nat := if x < 128 then [x] else (128 + x % 128) :: numB (x / 128)
termination_by x
decreasing_by omega

theorem numB_lt (x : Nat) (h : x < 128) : numB x = [x] := by rw [numB, if_pos h]
theorem numB_ge (x : Nat) (h : 128 ≤ x) : numB x = (128 + x % 128) :: numB (x / 128) := by rw [numB, if_neg (by omega)]

theorem numB_byte (x : Nat) : ∀ y ∈ numB x, y < 256 := by
  induction x using Nat.strongRecOn with
  | ind x ih =>
    by_cases h : x < 128
    · rw [numB_lt x h]; intro y hy; simp at hy; omega
    · rw [numB_ge x (by omega)]
      intro y hy
      rcases List.mem_cons.1 hy with rfl | hy
      · omega
      · exact ih (x / 128) (by omega) y hy

theorem numB_pos (x : Nat) : 0 < (numB x).length := by
  by_cases h : x < 128
  · rw [numB_lt x h]; simp
  · rw [numB_ge x (by omega)]; simp

theorem numB_len : ∀ (k x : Nat), x < 128 ^ (k + 1) → (numB x).length ≤ k + 1 := by
  intro k
  induction k with
  | zero => intro x hx; rw [numB_lt x (by omega)]; simp
  | succ k ih =>
    intro x hx
    by_cases h : x < 128
    · rw [numB_lt x h]; simp
    · rw [numB_ge x (by omega), List.length_cons]
      have := ih (x / 128) (by rw [Nat.div_lt_iff_lt_mul (by omega)]; rw [Nat.pow_succ] at hx; exact hx)
      omega

theorem numB_len10 (x : Nat) (hx : x < 18446744073709551616) : (numB x).length ≤ 10 := numB_len 9 x (Nat.lt_of_lt_of_le hx (by decide))

/-- what the first bytes say of the number: the state of a reader -/
structure Known (p : List Nat) (i x : Nat) : Prop where
  low : x < 128 ^ i
  all : ∀ y, numB y <+: p ↔ ∃ z, y = x + z * 128 ^ i ∧ (0 < i → 0 < z) ∧ numB z <+: p.drop i
  len : ∀ z, (0 < i → 0 < z) → (numB (x + z * 128 ^ i)).length = i + (numB z).length

theorem Known.start (p : List Nat) : Known p 0 0 := by
  refine ⟨by decide, fun y => ⟨fun h => ⟨y, by omega, by omega, h⟩, ?_⟩, fun z _ => by simp⟩
  rintro ⟨z, rfl, _, h⟩
  simpa using h

theorem numB_pre (z b : Nat) (r : List Nat) : numB z <+: b :: r ↔ (z < 128 ∧ b = z) ∨ (128 ≤ z ∧ b = 128 + z % 128 ∧ numB (z / 128) <+: r) := by
  by_cases h : z < 128
  · rw [numB_lt z h, List.cons_prefix_cons]
    constructor
    · rintro ⟨rfl, _⟩; exact .inl ⟨h, rfl⟩
    · rintro (⟨_, rfl⟩ | ⟨h2, _⟩)
      · exact ⟨rfl, List.nil_prefix⟩
      · omega
  · rw [numB_ge z (by omega), List.cons_prefix_cons]
    constructor
    · rintro ⟨rfl, h2⟩; exact .inr ⟨by omega, rfl, h2⟩
    · rintro (⟨h2, _⟩ | ⟨_, rfl, h2⟩)
      · omega
      · exact ⟨rfl, h2⟩

theorem pow_succ_128 (i : Nat) : 128 ^ (i + 1) = 128 ^ i * 128 := Nat.pow_succ 128 i

/-- a byte with the high bit: one more -/
theorem Known.next {p : List Nat} {i x : Nat} (h : Known p i x) (hi : i < p.length) (b : Nat) (hb : p[i]'hi = b) (h1 : 128 ≤ b) (h2 : b < 256) : Known p (i + 1) (x + (b - 128) * 128 ^ i) := by
  have hd : p.drop i = b :: p.drop (i + 1) := by rw [List.drop_eq_getElem_cons hi, hb]
  refine ⟨?_, fun y => ?_, fun z hz => ?_⟩
  · have := h.low
    have hm : (b - 128) * 128 ^ i ≤ 127 * 128 ^ i := Nat.mul_le_mul_right _ (by omega)
    rw [pow_succ_128]; omega
  · rw [h.all y]
    constructor
    · rintro ⟨z, rfl, hz, hp⟩
      rw [hd, numB_pre] at hp
      rcases hp with ⟨h3, h4⟩ | ⟨h3, h4, h5⟩
      · omega
      · refine ⟨z / 128, ?_, fun _ => by omega, h5⟩
        have hz2 : z = (b - 128) + (z / 128) * 128 := by omega
        have : z * 128 ^ i = (b - 128) * 128 ^ i + z / 128 * (128 ^ i * 128) := by
          rw [Nat.mul_comm (128 ^ i) 128, ← Nat.mul_assoc, ← Nat.add_mul, ← hz2]
        rw [pow_succ_128]; omega
    · rintro ⟨z, rfl, hz, hp⟩
      refine ⟨(b - 128) + z * 128, ?_, fun _ => by have := hz (by omega); omega, ?_⟩
      · rw [pow_succ_128, Nat.add_mul, Nat.mul_comm (128 ^ i) 128, ← Nat.mul_assoc]; omega
      · rw [hd, numB_pre]
        have := hz (by omega)
        exact .inr ⟨by omega, by omega, by rw [show (b - 128 + z * 128) / 128 = z by omega]; exact hp⟩
  · have hz0 := hz (by omega)
    have e : x + (b - 128) * 128 ^ i + z * 128 ^ (i + 1) = x + ((b - 128) + z * 128) * 128 ^ i := by
      rw [pow_succ_128, Nat.add_mul, Nat.mul_comm (128 ^ i) 128, ← Nat.mul_assoc]; omega
    rw [e, h.len _ (fun _ => by omega), numB_ge (b - 128 + z * 128) (by omega), List.length_cons, show (b - 128 + z * 128) / 128 = z by omega]
    omega

/-- a byte without it: the number -/
theorem Known.found {p : List Nat} {i x : Nat} (h : Known p i x) (hi : i < p.length) (b : Nat) (hb : p[i]'hi = b) (h1 : b < 128) (h2 : ¬ (b = 0 ∧ 0 < i)) :
    numB (x + b * 128 ^ i) <+: p ∧ (numB (x + b * 128 ^ i)).length = i + 1 := by
  have hd : p.drop i = b :: p.drop (i + 1) := by rw [List.drop_eq_getElem_cons hi, hb]
  have hz : 0 < i → 0 < b := by intro hi; have : ¬ b = 0 := fun e => h2 ⟨e, hi⟩; omega
  refine ⟨(h.all _).2 ⟨b, rfl, hz, by rw [hd, numB_pre]; exact .inl ⟨h1, rfl⟩⟩, ?_⟩
  rw [h.len b hz, numB_lt b h1]; rfl

/-- none: the bytes are at their end -/
theorem Known.ended {p : List Nat} {i x : Nat} (h : Known p i x) (hi : p.length ≤ i) (y : Nat) : ¬ numB y <+: p := by
  intro hp
  obtain ⟨z, _, _, h1⟩ := (h.all y).1 hp
  rw [List.drop_eq_nil_of_le hi, List.prefix_nil] at h1
  have := numB_pos z
  rw [h1] at this; simp at this

/-- none: more than ten -/
theorem Known.long {p : List Nat} {i x : Nat} (h : Known p i x) (hi : 10 ≤ i) (y : Nat) (hy : y < 18446744073709551616) : ¬ numB y <+: p := by
  intro hp
  obtain ⟨z, rfl, hz, _⟩ := (h.all y).1 hp
  have := hz (by omega)
  have h2 : 128 ^ 10 ≤ 128 ^ i := Nat.pow_le_pow_right (by decide) hi
  have h3 : 1 * 128 ^ i ≤ z * 128 ^ i := Nat.mul_le_mul_right _ this
  have h4 : (128 : Nat) ^ 10 = 1180591620717411303424 := by decide
  omega

/-- none: too large, or a nought at the end -/
theorem Known.bad {p : List Nat} {i x : Nat} (h : Known p i x) (hi : i < p.length) (b : Nat) (hb : p[i]'hi = b) (hbad : 18446744073709551616 ≤ (b % 128) * 128 ^ i ∨ (b = 0 ∧ 0 < i)) (y : Nat) (hy : y < 18446744073709551616) : ¬ numB y <+: p := by
  intro hp
  have hd : p.drop i = b :: p.drop (i + 1) := by rw [List.drop_eq_getElem_cons hi, hb]
  obtain ⟨z, rfl, hz, h1⟩ := (h.all y).1 hp
  rw [hd, numB_pre] at h1
  rcases hbad with hbad | ⟨rfl, h0⟩
  · have hle : (b % 128) * 128 ^ i ≤ z * 128 ^ i := Nat.mul_le_mul_right _ (by rcases h1 with ⟨_, rfl⟩ | ⟨_, h2, _⟩ <;> omega)
    omega
  · have := hz h0
    rcases h1 with ⟨_, h2⟩ | ⟨_, h2, _⟩ <;> omega

theorem numB_uniq (p : List Nat) (x y : Nat) (hx : numB x <+: p) (hy : numB y <+: p) : x = y := by
  induction x using Nat.strongRecOn generalizing p y with
  | ind x ih =>
    cases p with
    | nil => rw [List.prefix_nil] at hx; have := numB_pos x; rw [hx] at this; simp at this
    | cons b r =>
      rw [numB_pre] at hx hy
      rcases hx with ⟨h1, rfl⟩ | ⟨h1, h2, h3⟩
      · rcases hy with ⟨_, h4⟩ | ⟨_, h4, _⟩
        · exact h4
        · omega
      · rcases hy with ⟨h4, rfl⟩ | ⟨h4, h5, h6⟩
        · omega
        · have := ih (x / 128) (by omega) r (y / 128) h3 h6
          omega

/-- the number that bytes mean, as the document reckons it -/
def valB : List Nat → Nat
  | [] => 0
  | b :: r => b % 128 + 128 * valB r

theorem valB_numB (x : Nat) : valB (numB x) = x := by
  induction x using Nat.strongRecOn with
  | ind x ih =>
    by_cases h : x < 128
    · rw [numB_lt x h]; simp [valB]; omega
    · rw [numB_ge x (by omega), valB, ih (x / 128) (by omega)]; omega

theorem numB_last (x i : Nat) (h : i < (numB x).length) : ((numB x)[i] < 128 ↔ i + 1 = (numB x).length) := by
  induction x using Nat.strongRecOn generalizing i with
  | ind x ih =>
    by_cases hx : x < 128
    · have e := numB_lt x hx
      simp only [e] at h ⊢
      simp at h
      subst h; simp [hx]
    · have e := numB_ge x (by omega)
      simp only [e] at h ⊢
      cases i with
      | zero =>
        have := numB_pos (x / 128)
        simp only [List.getElem_cons_zero, List.length_cons]; omega
      | succ i =>
        simp only [List.getElem_cons_succ, List.length_cons]
        rw [ih (x / 128) (by omega) i (by simpa using h)]; omega

/-- a number's length within bytes: the first byte that is small -/
theorem numB_first {p : List Nat} {y : Nat} (h : numB y <+: p) (n : Nat) (hn : n < p.length) (hb : p[n] < 128) (ha : ∀ j (hj : j < p.length), j < n → 128 ≤ p[j]) : (numB y).length = n + 1 := by
  obtain ⟨r, rfl⟩ := h
  by_cases h1 : n < (numB y).length
  · rw [List.getElem_append_left h1] at hb
    exact ((numB_last y n h1).1 hb).symm
  · exfalso
    have hp := numB_pos y
    have h2 := (numB_last y ((numB y).length - 1) (by omega)).2 (by omega)
    have h3 := ha ((numB y).length - 1) (by simp; omega) (by omega)
    rw [List.getElem_append_left (by omega)] at h3
    omega
end PackP
end Go.Proofs.Ytgmgbgjghncipaa

