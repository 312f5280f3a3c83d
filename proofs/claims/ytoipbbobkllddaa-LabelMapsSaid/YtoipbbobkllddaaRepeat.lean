/- slices.Repeat of one number. -/
import Derived.Test.YtoipbbobkllddaaOrbit
import Derived.Laws.CopyOwn
import Derived.Deep.RegionLaw
import Derived.Laws.BitsAllLaws
namespace Go.Proofs.Ytoipbbobkllddaa
open Go.RowKit

theorem mask32 (n : Nat) (h : n < 4294967296) : bits BinOp.and IntKind.u64 (n : Int) 4294967295 = (n : Int) := by
  refine (u64_and_nat n 4294967295 (by omega) (by decide)).trans ?_
  rw [show (4294967295 : Nat) = 2 ^ 32 - 1 from rfl, Nat.and_two_pow_sub_one_eq_mod, Nat.mod_eq_of_lt (by omega)]

/-- a row of which the first m are z -/
def fillR (z : Int) (m n : Nat) : List Value := List.replicate m (.int .i64 z) ++ List.replicate (n - m) (.int .i64 0)
theorem fillR_len (z : Int) (m n : Nat) (h : m ≤ n) : (fillR z m n).length = n := by simp [fillR]; omega
theorem fillR_get (z : Int) (m n j : Nat) (h : j < m) : (fillR z m n)[j]? = some (.int .i64 z) := by
  unfold fillR; rw [List.getElem?_append_left (by simpa using h)]; simp [h]
theorem fillR_splice (z : Int) (m d n : Nat) (h : m + d ≤ n) : splice (fillR z m n) m (List.replicate d (Value.int .i64 z)) = fillR z (m + d) n := by
  unfold splice fillR
  have e1 : (List.replicate m (Value.int .i64 z) ++ List.replicate (n - m) (Value.int .i64 0)).take m = List.replicate m (Value.int .i64 z) := by
    rw [List.take_left' (by simp)]
  have e2 : (List.replicate m (Value.int .i64 z) ++ List.replicate (n - m) (Value.int .i64 0)).drop (m + (List.replicate d (Value.int .i64 z)).length) = List.replicate (n - (m + d)) (Value.int .i64 0) := by
    rw [List.length_replicate, ← List.drop_drop, List.drop_left' (by simp), List.drop_replicate]
    congr 1; omega
  rw [e1, e2, ← List.append_assoc, List.replicate_append_replicate]

end Go.Proofs.Ytoipbbobkllddaa

