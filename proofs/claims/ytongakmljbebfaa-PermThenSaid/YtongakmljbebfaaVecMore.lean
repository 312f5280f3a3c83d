/- The contracts of Vec.Add, Vec.Num, Vec.Join. -/
import Derived.Test.YtongakmljbebfaaVecAdd
namespace Go.Proofs.Ytongakmljbebfaa
open Go.RowKit

def intsOf (xs : List Int) : List Value := xs.map fun x => .int .i64 x
theorem intsOf_get (l : List Int) (j : Nat) (h : j < l.length) : (intsOf l)[j]? = some (.int .i64 l[j]) := by simp [intsOf, h]
set_option maxRecDepth 100000 in
theorem intsOf_len (l : List Int) : (intsOf l).length = l.length := by simp [intsOf]
/-- which numbers are not nought -/
def flags (xs : List Int) : List Bool := xs.map fun x => x != 0
set_option maxRecDepth 100000 in
theorem flags_len (xs : List Int) : (flags xs).length = xs.length := by simp [flags]

/-- a number's lowest bits -/
def numBits (x n : Nat) : List Bool := (List.range n).map fun i => x.testBit i
theorem numBits_len (x n : Nat) : (numBits x n).length = n := by simp [numBits]
theorem numBits_succ (x n : Nat) : numBits x (n + 1) = numBits x n ++ [x.testBit n] := by simp [numBits, List.range_succ]
/-- none to 64 -/
def clamp (k : Int) : Nat := if k < 0 then 0 else if k > 64 then 64 else k.toNat
theorem clamp_le (k : Int) : clamp k ≤ 64 := by unfold clamp; split; omega; split <;> omega

theorem bit_u64 (x i : Nat) (hx : x < 18446744073709551616) : bits BinOp.and IntKind.u64 ((x : Int) / 2 ^ i) 1 = (((x.testBit i).toNat : Nat) : Int) := by
  have e : ((x : Int) / 2 ^ i) = ((x / 2 ^ i : Nat) : Int) := by simp
  have hle : x / 2 ^ i ≤ x := Nat.div_le_self _ _
  have h1 := u64_and_nat (x / 2 ^ i) 1 (by omega) (by decide)
  rw [nat_mask1] at h1
  rw [e]
  have h2 : bits BinOp.and IntKind.u64 ((x / 2 ^ i : Nat) : Int) 1 = ((x / 2 ^ i % 2 : Nat) : Int) := h1
  rw [h2, Nat.testBit_eq_decide_div_mod_eq]
  rcases Nat.mod_two_eq_zero_or_one (x / 2 ^ i) with h | h <;> simp [h]

theorem run_max2 {P : Program} (ts : Array TypeId) (t : TypeId) (a b : Int) (w : World) : (Builtin.max_ ts t #[.int .i64 a, .int .i64 b]).run P w = .ok (.int .i64 (if b > a then b else a)) w := by
  simp [Builtin.max_, Builtin.max2]
theorem run_min2 {P : Program} (ts : Array TypeId) (t : TypeId) (a b : Int) (w : World) : (Builtin.min_ ts t #[.int .i64 a, .int .i64 b]).run P w = .ok (.int .i64 (if b < a then b else a)) w := by
  simp [Builtin.min_, Builtin.min2]

/-- 'min(max(k, 0), 64)' -/
theorem run_clamp {P : Program} (k : Int) : ∃ m : Int, (∀ ts t w, (Builtin.max_ ts t #[.int .i64 k, .int .i64 0]).run P w = .ok (.int .i64 m) w) ∧ (∀ ts t w, (Builtin.min_ ts t #[.int .i64 m, .int .i64 64]).run P w = .ok (.int .i64 (clamp k : Nat)) w) := by
  refine ⟨if (0 : Int) > k then 0 else k, fun ts t w => run_max2 ts t k 0 w, fun ts t w => ?_⟩
  rw [run_min2]
  have : (if (64 : Int) < (if (0 : Int) > k then 0 else k) then 64 else (if (0 : Int) > k then 0 else k)) = ((clamp k : Nat) : Int) := by
    unfold clamp
    by_cases h1 : k < 0
    · rw [if_pos (show (0 : Int) > k from h1), if_pos h1, if_neg (by omega)]; rfl
    · rw [if_neg (show ¬ (0 : Int) > k from h1), if_neg h1]
      by_cases h2 : (64 : Int) < k
      · rw [if_pos h2, if_pos h2]; rfl
      · rw [if_neg h2, if_neg h2]; omega
  rw [this]

end Go.Proofs.Ytongakmljbebfaa

