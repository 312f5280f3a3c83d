/- How many of a word's bits are 1: the plain law. -/
import Derived.Test.YtoipbbobkllddaaBits
namespace BitsP

/-! ### how many bits of a word are 1 -/

/-- a function of bytes, byte by byte -/
def mapB (f : Nat → Nat) : Nat → Nat → Nat
  | 0, _ => 0
  | n + 1, x => f (x % 256) + 256 * mapB f n (x / 256)

def mask (c : Nat) : Nat → Nat
  | 0 => 0
  | n + 1 => c + 256 * mask c n

theorem and_bytes (b r m M : Nat) (hb : b < 256) (hm : m < 256) : (b + 256 * r) &&& (m + 256 * M) = (b &&& m) + 256 * (r &&& M) := by
  have hbm : b &&& m < 2 ^ 8 := Nat.and_lt_two_pow _ (by omega)
  apply Nat.eq_of_testBit_eq
  intro i
  have key : ∀ (x y : Nat), x < 256 → (x + 256 * y).testBit i = if i < 8 then x.testBit i else y.testBit (i - 8) := by
    intro x y hx
    have e : x + 256 * y = 2 ^ 8 * y + x := by omega
    rw [e, Nat.testBit_two_pow_mul_add y (by simpa using hx)]
  rw [Nat.testBit_and, key b r hb, key m M hm, key _ _ (by simpa using hbm)]
  split <;> simp [Nat.testBit_and]

theorem mapB_lt {f : Nat → Nat} (hf : ∀ b, b < 256 → f b < 256) : ∀ n x, mapB f n x < 256 ^ n
  | 0, x => by simp [mapB]
  | n + 1, x => by
    have h1 := hf (x % 256) (Nat.mod_lt _ (by decide))
    have h2 := mapB_lt hf n (x / 256)
    simp only [mapB, Nat.pow_succ]; omega

theorem mapB_low {f : Nat → Nat} (hf : ∀ b, b < 256 → f b < 256) (n x : Nat) : mapB f (n + 1) x % 256 = f (x % 256) ∧ mapB f (n + 1) x / 256 = mapB f n (x / 256) := by
  have h1 := hf (x % 256) (Nat.mod_lt _ (by decide))
  simp only [mapB]; omega

theorem mapB_comp {f g : Nat → Nat} (hf : ∀ b, b < 256 → f b < 256) : ∀ n x, mapB g n (mapB f n x) = mapB (fun b => g (f b)) n x
  | 0, x => rfl
  | n + 1, x => by
    obtain ⟨h1, h2⟩ := mapB_low hf n x
    show g (mapB f (n + 1) x % 256) + 256 * mapB g n (mapB f (n + 1) x / 256) = _
    rw [h1, h2, mapB_comp hf n]
    rfl

def s0 (b : Nat) : Nat := (b / 2 &&& 85) + (b &&& 85)
def s1 (b : Nat) : Nat := (b / 4 &&& 51) + (b &&& 51)
def s2 (b : Nat) : Nat := (b / 16 + b) &&& 15

theorem low2 : ∀ c, c < 2 → ∀ b, b < 256 → (b / 2 + 128 * c) &&& 85 = (b / 2) &&& 85 := by decide +kernel
theorem low4 : ∀ c, c < 4 → ∀ b, b < 256 → (b / 4 + 64 * c) &&& 51 = (b / 4) &&& 51 := by decide +kernel
theorem s0_lt : ∀ b, b < 256 → s0 b < 256 := by decide +kernel
theorem s1_lt : ∀ b, b < 256 → s1 b < 256 := by decide +kernel
theorem s10_le : ∀ b, b < 256 → s1 (s0 b) % 16 ≤ 4 ∧ s1 (s0 b) / 16 ≤ 4 := by decide +kernel
theorem s2_all : ∀ b, b < 256 → s2 (s1 (s0 b)) ≤ 8 := by decide +kernel

theorem stage0 : ∀ n x, (x / 2 &&& mask 85 n) + (x &&& mask 85 n) = mapB s0 n x
  | 0, x => by simp [mask, mapB]
  | n + 1, x => by
    have hx : x = x % 256 + 256 * (x / 256) := by omega
    have hx2 : x / 2 = (x % 256 / 2 + 128 * (x / 256 % 2)) + 256 * (x / 256 / 2) := by omega
    have ih := stage0 n (x / 256)
    have h1 : (x / 2 &&& mask 85 (n + 1)) = (x % 256 / 2 &&& 85) + 256 * (x / 256 / 2 &&& mask 85 n) := by
      rw [hx2]
      show _ &&& (85 + 256 * mask 85 n) = _
      rw [and_bytes _ _ _ _ (by omega) (by decide), low2 _ (Nat.mod_lt _ (by decide)) _ (Nat.mod_lt _ (by decide))]
    have h2 : (x &&& mask 85 (n + 1)) = (x % 256 &&& 85) + 256 * (x / 256 &&& mask 85 n) := by
      conv => lhs; rw [hx]
      show _ &&& (85 + 256 * mask 85 n) = _
      rw [and_bytes _ _ _ _ (by omega) (by decide)]
    rw [h1, h2]
    show _ = s0 (x % 256) + 256 * mapB s0 n (x / 256)
    rw [← ih]
    unfold s0
    omega

theorem stage1 : ∀ n x, (x / 4 &&& mask 51 n) + (x &&& mask 51 n) = mapB s1 n x
  | 0, x => by simp [mask, mapB]
  | n + 1, x => by
    have hx : x = x % 256 + 256 * (x / 256) := by omega
    have hx2 : x / 4 = (x % 256 / 4 + 64 * (x / 256 % 4)) + 256 * (x / 256 / 4) := by omega
    have ih := stage1 n (x / 256)
    have h1 : (x / 4 &&& mask 51 (n + 1)) = (x % 256 / 4 &&& 51) + 256 * (x / 256 / 4 &&& mask 51 n) := by
      rw [hx2]
      show _ &&& (51 + 256 * mask 51 n) = _
      rw [and_bytes _ _ _ _ (by omega) (by decide), low4 _ (Nat.mod_lt _ (by decide)) _ (Nat.mod_lt _ (by decide))]
    have h2 : (x &&& mask 51 (n + 1)) = (x % 256 &&& 51) + 256 * (x / 256 &&& mask 51 n) := by
      conv => lhs; rw [hx]
      show _ &&& (51 + 256 * mask 51 n) = _
      rw [and_bytes _ _ _ _ (by omega) (by decide)]
    rw [h1, h2]
    show _ = s1 (x % 256) + 256 * mapB s1 n (x / 256)
    rw [← ih]
    unfold s1
    omega

theorem low16 : ∀ b, b < 256 → ∀ c, c < 16 → (b + 16 * c) &&& 15 = b &&& 15 := by decide +kernel

/-- every byte's halves are at most four -/
def Small : Nat → Nat → Prop
  | 0, _ => True
  | n + 1, x => x % 256 % 16 ≤ 4 ∧ x % 256 / 16 ≤ 4 ∧ Small n (x / 256)

theorem small_of {f : Nat → Nat} (hf : ∀ b, b < 256 → f b < 256) (h4 : ∀ b, b < 256 → f b % 16 ≤ 4 ∧ f b / 16 ≤ 4) : ∀ n x, Small n (mapB f n x)
  | 0, _ => trivial
  | n + 1, x => by
    obtain ⟨h1, h2⟩ := mapB_low hf n x
    have h3 := h4 (x % 256) (Nat.mod_lt _ (by decide))
    refine ⟨by rw [h1]; exact h3.1, by rw [h1]; exact h3.2, ?_⟩
    rw [h2]
    exact small_of hf h4 n _

theorem stage2 : ∀ n x, Small n x → x < 256 ^ n → (x / 16 + x) &&& mask 15 n = mapB s2 n x
  | 0, x, _, hx => by simp [mask, mapB]
  | n + 1, x, hs, hx => by
    obtain ⟨h1, h2, h3⟩ := hs
    have hx' : x / 256 < 256 ^ n := by rw [Nat.pow_succ] at hx; omega
    have ih := stage2 n (x / 256) h3 hx'
    have hlow : x / 256 % 16 ≤ 4 := by
      cases n with
      | zero => simp at hx'; omega
      | succ n => have := h3.1; omega
    have e : x / 16 + x = (x % 256 / 16 + x % 256 + 16 * (x / 256 % 16)) + 256 * (x / 256 / 16 + x / 256) := by omega
    rw [e]
    show _ &&& (15 + 256 * mask 15 n) = s2 (x % 256) + 256 * mapB s2 n (x / 256)
    rw [and_bytes _ _ _ _ (by omega) (by decide), ih, low16 _ (by omega) _ (by omega)]
    rfl

/-- the sum of the bytes -/
def sumB : Nat → Nat → Nat
  | 0, _ => 0
  | n + 1, x => x % 256 + sumB n (x / 256)

theorem div_low (r m y : Nat) (h : r < m) : (r + m * y) / m = y := by
  rw [Nat.add_mul_div_left _ _ (by omega), Nat.div_eq_of_lt h]; omega

theorem f1 (p0 p1 p2 p3 p4 p5 p6 p7 : Nat) (h0 : p0 ≤ 8) (x a : Nat)
    (hx : x = p0 + 256 * (p1 + 256 * (p2 + 256 * (p3 + 256 * (p4 + 256 * (p5 + 256 * (p6 + 256 * p7)))))))
    (ha : a = x + x / 256)  : a = ((p0 + p1) + 256 * (p1 + p2)) + 65536 * ((p2 + p3) + 256 * ((p3 + p4) + 256 * ((p4 + p5) + 256 * ((p5 + p6) + 256 * ((p6 + p7) + 256 * p7))))) := by
  have e1 : x / 256 = p1 + 256 * (p2 + 256 * (p3 + 256 * (p4 + 256 * (p5 + 256 * (p6 + 256 * p7))))) := by
    rw [hx]; exact div_low _ _ _ (by omega)
  rw [ha, e1, hx]; clear ha e1 hx h0
  omega

theorem f2 (p0 p1 p2 p3 p4 p5 p6 p7 : Nat) (h0 : p0 ≤ 8) (h1 : p1 ≤ 8) (h2 : p2 ≤ 8) (_h3 : p3 ≤ 8) (_h4 : p4 ≤ 8) (_h5 : p5 ≤ 8) (a b : Nat)
    (ha : a = ((p0 + p1) + 256 * (p1 + p2)) + 65536 * ((p2 + p3) + 256 * ((p3 + p4) + 256 * ((p4 + p5) + 256 * ((p5 + p6) + 256 * ((p6 + p7) + 256 * p7))))))
    (hb : b = a + a / 65536) : b = ((p0 + p1 + p2 + p3) + 256 * (p1 + p2 + p3 + p4) + 65536 * (p2 + p3 + p4 + p5) + 16777216 * (p3 + p4 + p5 + p6)) + 4294967296 * ((p4 + p5 + p6 + p7) + 256 * ((p5 + p6 + p7) + 256 * ((p6 + p7) + 256 * p7))) := by
  have e2 : a / 65536 = (p2 + p3) + 256 * ((p3 + p4) + 256 * ((p4 + p5) + 256 * ((p5 + p6) + 256 * ((p6 + p7) + 256 * p7)))) := by
    rw [ha]; exact div_low _ _ _ (by omega)
  rw [hb, e2, ha]; clear ha hb e2 h0 h1 h2
  omega

theorem f3 (p0 p1 p2 p3 p4 p5 p6 p7 : Nat) (h0 : p0 ≤ 8) (h1 : p1 ≤ 8) (h2 : p2 ≤ 8) (h3 : p3 ≤ 8) (h4 : p4 ≤ 8) (h5 : p5 ≤ 8) (h6 : p6 ≤ 8) (h7 : p7 ≤ 8) (b c : Nat)
    (hb : b = ((p0 + p1 + p2 + p3) + 256 * (p1 + p2 + p3 + p4) + 65536 * (p2 + p3 + p4 + p5) + 16777216 * (p3 + p4 + p5 + p6)) + 4294967296 * ((p4 + p5 + p6 + p7) + 256 * ((p5 + p6 + p7) + 256 * ((p6 + p7) + 256 * p7))))
    (hc : c = b + b / 4294967296) : c % 128 = p0 + p1 + p2 + p3 + p4 + p5 + p6 + p7 := by
  have e3 : b / 4294967296 = (p4 + p5 + p6 + p7) + 256 * ((p5 + p6 + p7) + 256 * ((p6 + p7) + 256 * p7)) := by
    rw [hb]; exact div_low _ _ _ (by omega)
  have ec : c = (p0 + p1 + p2 + p3 + p4 + p5 + p6 + p7) + 128 * (2 * (p1 + p2 + p3 + p4 + p5 + p6 + p7) + 512 * (p2 + p3 + p4 + p5 + p6 + p7) + 131072 * (p3 + p4 + p5 + p6 + p7) + 33554432 * ((p4 + p5 + p6 + p7) + 256 * ((p5 + p6 + p7) + 256 * ((p6 + p7) + 256 * p7)))) := by
    rw [hc, e3, hb]; clear hc hb e3 h0 h1 h2 h3 h4 h5 h6 h7; omega
  rw [ec, Nat.add_mul_mod_self_left]; exact Nat.mod_eq_of_lt (by omega)

theorem fold8 (p0 p1 p2 p3 p4 p5 p6 p7 : Nat) (h0 : p0 ≤ 8) (h1 : p1 ≤ 8) (h2 : p2 ≤ 8) (h3 : p3 ≤ 8) (h4 : p4 ≤ 8) (h5 : p5 ≤ 8) (h6 : p6 ≤ 8) (h7 : p7 ≤ 8) (x a b : Nat)
    (hx : x = p0 + 256 * (p1 + 256 * (p2 + 256 * (p3 + 256 * (p4 + 256 * (p5 + 256 * (p6 + 256 * p7)))))))
    (ha : a = x + x / 256) (hb : b = a + a / 65536) :
    (b + b / 4294967296) % 128 = p0 + p1 + p2 + p3 + p4 + p5 + p6 + p7 ∧ x < 2 ^ 60 ∧ a < 2 ^ 61 ∧ b < 2 ^ 62 := by
  have ea := f1 p0 p1 p2 p3 p4 p5 p6 p7 h0 x a hx ha
  have eb := f2 p0 p1 p2 p3 p4 p5 p6 p7 h0 h1 h2 h3 h4 h5 a b ea hb
  refine ⟨f3 p0 p1 p2 p3 p4 p5 p6 p7 h0 h1 h2 h3 h4 h5 h6 h7 b _ eb rfl, ?_⟩
  have hx' : x < 2 ^ 60 := by rw [hx]; clear hx ea eb ha hb; omega
  have ha' : a < 2 ^ 61 := by clear hx ea eb hb; omega
  have hb' : b < 2 ^ 62 := by clear hx ea eb ha hx'; omega
  exact ⟨hx', ha', hb'⟩

/-- how many of the lowest n bits are 1 -/
def pop : Nat → Nat → Nat
  | 0, _ => 0
  | n + 1, x => x % 2 + pop n (x / 2)

theorem pop_byte : ∀ b, b < 256 → s2 (s1 (s0 b)) = pop 8 b := by decide +kernel

theorem pop_mod : ∀ a x, pop a (x % 2 ^ a) = pop a x
  | 0, x => rfl
  | a + 1, x => by
    have h1 : x % 2 ^ (a + 1) % 2 = x % 2 := by
      rw [Nat.pow_succ, Nat.mul_comm, Nat.mod_mul_right_mod]
    have h2 : x % 2 ^ (a + 1) / 2 = x / 2 % 2 ^ a := by
      rw [Nat.pow_succ, Nat.mul_comm, Nat.mod_mul_right_div_self]
    show x % 2 ^ (a + 1) % 2 + pop a (x % 2 ^ (a + 1) / 2) = x % 2 + pop a (x / 2)
    rw [h1, h2, pop_mod]

theorem pop_add : ∀ a b x, pop (a + b) x = pop a x + pop b (x / 2 ^ a)
  | 0, b, x => by simp [pop]
  | a + 1, b, x => by
    rw [show a + 1 + b = (a + b) + 1 from by omega]
    show x % 2 + pop (a + b) (x / 2) = x % 2 + pop a (x / 2) + pop b (x / 2 ^ (a + 1))
    rw [pop_add a b (x / 2), Nat.div_div_eq_div_mul, Nat.pow_succ, Nat.mul_comm 2, Nat.add_assoc]

theorem pop_le : ∀ n x, pop n x ≤ n
  | 0, _ => Nat.le_refl _
  | n + 1, x => by have := pop_le n (x / 2); have := Nat.mod_lt x (show 0 < 2 by decide); simp only [pop]; omega

theorem small_half : ∀ n x, Small n x → x < 256 ^ n → 2 * x < 256 ^ n
  | 0, x, _, h => by simp at h ⊢; omega
  | n + 1, x, ⟨h1, h2, h3⟩, h => by
    have hx : x / 256 < 256 ^ n := by rw [Nat.pow_succ] at h; omega
    have ih := small_half n (x / 256) h3 hx
    rw [Nat.pow_succ]; omega

theorem mapB_congr {f g : Nat → Nat} (h : ∀ b, b < 256 → f b = g b) : ∀ n x, mapB f n x = mapB g n x
  | 0, _ => rfl
  | n + 1, x => by simp only [mapB]; rw [h _ (Nat.mod_lt _ (by decide)), mapB_congr h n]

theorem pop_eight (x : Nat) : pop 64 x = pop 8 (x % 256) + pop 8 (x / 256 % 256) + pop 8 (x / 256 / 256 % 256) + pop 8 (x / 256 / 256 / 256 % 256) + pop 8 (x / 256 / 256 / 256 / 256 % 256)
    + pop 8 (x / 256 / 256 / 256 / 256 / 256 % 256) + pop 8 (x / 256 / 256 / 256 / 256 / 256 / 256 % 256) + pop 8 (x / 256 / 256 / 256 / 256 / 256 / 256 / 256 % 256) := by
  have h : ∀ y, pop 8 (y % 256) = pop 8 y := fun y => pop_mod 8 y
  have k : ∀ n y, pop (8 + n) y = pop 8 y + pop n (y / 256) := fun n y => pop_add 8 n y
  simp only [h]
  rw [show 64 = 8 + (8 + (8 + (8 + (8 + (8 + (8 + (8 + 0))))))) from rfl, k, k, k, k, k, k, k, k]
  simp only [pop, Nat.add_assoc, Nat.add_zero]

/-- The count of a word's bits, as the library counts it. -/
theorem pop_word (x : Nat) (h : x < 18446744073709551616) : ∃ x1 x2 x3 x4 x5 x6 : Nat,
    (x / 2 &&& 6148914691236517205) + (x &&& 6148914691236517205) = x1 ∧ x1 < 18446744073709551616 ∧
    (x1 / 4 &&& 3689348814741910323) + (x1 &&& 3689348814741910323) = x2 ∧ x2 < 9223372036854775808 ∧
    ((x2 / 16 + x2) &&& 1085102592571150095) = x3 ∧ x3 < 2 ^ 60 ∧
    x3 + x3 / 256 = x4 ∧ x4 < 2 ^ 61 ∧ x4 + x4 / 65536 = x5 ∧ x5 < 2 ^ 62 ∧ x5 + x5 / 4294967296 = x6 ∧ x6 < 2 ^ 63 ∧ x6 % 128 = pop 64 x := by
  have a0 := s0_lt
  have a1 := s1_lt
  have a10 : ∀ b, b < 256 → s1 (s0 b) < 256 := fun b hb => a1 _ (a0 b hb)
  have e1 := stage0 8 x
  have e2 := stage1 8 (mapB s0 8 x)
  rw [mapB_comp a0] at e2
  have hsm := small_of (f := fun b => s1 (s0 b)) a10 s10_le 8 x
  have l1 := mapB_lt a0 8 x
  have l2 := mapB_lt (f := fun b => s1 (s0 b)) a10 8 x
  have l2' := small_half 8 _ hsm l2
  have e3 := stage2 8 _ hsm l2
  rw [mapB_comp a10] at e3
  have e3' : mapB (fun b => s2 (s1 (s0 b))) 8 x = mapB (pop 8) 8 x := mapB_congr pop_byte 8 x
  rw [e3'] at e3
  have m0 : mask 85 8 = 6148914691236517205 := by decide
  have m1 : mask 51 8 = 3689348814741910323 := by decide
  have m2 : mask 15 8 = 1085102592571150095 := by decide
  rw [m0] at e1; rw [m1] at e2; rw [m2] at e3
  have f := fold8 (pop 8 (x % 256)) (pop 8 (x / 256 % 256)) (pop 8 (x / 256 / 256 % 256)) (pop 8 (x / 256 / 256 / 256 % 256)) (pop 8 (x / 256 / 256 / 256 / 256 % 256))
    (pop 8 (x / 256 / 256 / 256 / 256 / 256 % 256)) (pop 8 (x / 256 / 256 / 256 / 256 / 256 / 256 % 256)) (pop 8 (x / 256 / 256 / 256 / 256 / 256 / 256 / 256 % 256))
    (pop_le _ _) (pop_le _ _) (pop_le _ _) (pop_le _ _) (pop_le _ _) (pop_le _ _) (pop_le _ _) (pop_le _ _) (mapB (pop 8) 8 x) _ _ (by simp only [mapB, Nat.mul_zero, Nat.add_zero]) rfl rfl
  obtain ⟨f1, f2, f3, f4⟩ := f
  rw [← pop_eight] at f1
  generalize mapB (pop 8) 8 x = x3 at *
  generalize mapB (fun b => s1 (s0 b)) 8 x = x2 at *
  generalize mapB s0 8 x = x1 at *
  refine ⟨x1, x2, x3, _, _, _, e1, by simpa using l1, e2, by simp at l2'; omega, e3, f2, rfl, f3, rfl, f4, rfl, ?_, f1⟩
  have : (x3 + x3 / 256 + (x3 + x3 / 256) / 65536) / 4294967296 ≤ (x3 + x3 / 256 + (x3 + x3 / 256) / 65536) := Nat.div_le_self _ _
  generalize (x3 + x3 / 256 + (x3 + x3 / 256) / 65536) = y at *
  generalize y / 4294967296 = z at *
  omega

/-- of the bits of a list -/
theorem pop_num : ∀ (l : List Bool) (n : Nat), l.length ≤ n → pop n (num l) = l.count true
  | [], n, _ => by
    have : ∀ n, pop n 0 = 0 := by intro n; induction n with
      | zero => rfl
      | succ n ih => simp [pop, ih]
    simp [num, this]
  | b :: l, 0, h => by simp at h
  | b :: l, n + 1, h => by
    have h1 : (b.toNat + 2 * num l) % 2 = b.toNat := by cases b <;> simp <;> omega
    have h2 : (b.toNat + 2 * num l) / 2 = num l := by cases b <;> simp <;> omega
    simp only [num, pop, h1, h2]
    rw [pop_num l n (by simpa using h), List.count_cons]
    cases b <;> simp <;> omega

theorem pop_words (l : List Bool) : ∀ k, pop (64 * (k + 1)) (num l) = pop (64 * k) (num l) + pop 64 (word l k) := by
  intro k
  rw [show 64 * (k + 1) = 64 * k + 64 from by omega, pop_add]
  unfold word
  rw [pop_mod]
end BitsP

