/- The contracts of bits.New, Vec.Len, Vec.At, Vec.add. -/
import Derived.Test.YtongakmljbebfaaVec
import Derived.Lib.Hide
namespace Go.Proofs.Ytongakmljbebfaa
open Go.RowKit

set_option maxRecDepth 100000 in
theorem info_u64 : (Try.prog.info? 70).map (fun i => (i.zero, i.size, i.bytes)) = some (some (.int .u64 0), 1, 8) := by kernel_rfl

theorem ret_i64 {a b : Int} (h : a = b) : Ending.returned (.int .i64 a) = .returned (.int .i64 b) := by rw [h]

theorem bit_of (q n : Nat) (hq : q < 18446744073709551616) : wrap64 (bits BinOp.and IntKind.u64 ((q : Int) / 2 ^ n) 1) = ((q / 2 ^ n % 2 : Nat) : Int) := by
  have e : ((q : Int) / 2 ^ n) = ((q / 2 ^ n : Nat) : Int) := by simp
  have hle : q / 2 ^ n ≤ q := Nat.div_le_self _ _
  have h1 := u64_and_nat (q / 2 ^ n) 1 (by omega) (by decide)
  rw [nat_mask1] at h1
  rw [e]
  have h2 : bits BinOp.and IntKind.u64 ((q / 2 ^ n : Nat) : Int) 1 = ((q / 2 ^ n % 2 : Nat) : Int) := h1
  rw [h2]
  exact IntWalk.wrap64_in _ ⟨by omega, by omega⟩

/-- one bit of some; -1 where there is none -/
def bitAt (l : List Bool) (i : Int) : Int := if 0 ≤ i ∧ i < l.length then ((l.getD i.toNat false).toNat : Int) else -1

theorem one_oneCell (v : Value) (h : v.oneCell' = true) : ∀ u ∈ [v], u.oneCell' = true := by
  intro u hu; simp at hu; subst hu; exact h

theorem or_shift (q t n : Nat) (hq : q < 18446744073709551616) (ht : t < 2) (hn : n < 64) :
    bits BinOp.or IntKind.u64 (q : Int) (IntKind.u64.wrap ((t : Int) * 2 ^ n)) = ((q ||| (t <<< n) : Nat) : Int) := by
  have h1 : t * 2 ^ n < 18446744073709551616 := by
    have h2 : 2 ^ n ≤ 2 ^ 63 := Nat.pow_le_pow_right (by decide) (by omega)
    have h3 : t * 2 ^ n ≤ 1 * 2 ^ n := Nat.mul_le_mul_right _ (by omega)
    omega
  have e : ((t : Int) * 2 ^ n) = ((t * 2 ^ n : Nat) : Int) := by simp
  rw [e, IntKind.wrap_u64, Nat.shiftLeft_eq]
  have e2 : ((t * 2 ^ n : Nat) : Int) % 18446744073709551616 = ((t * 2 ^ n : Nat) : Int) := by omega
  rw [e2, u64_or_nat q _ hq h1]

end Go.Proofs.Ytongakmljbebfaa

