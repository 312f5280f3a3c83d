/- The contracts of OnesCount64 and Vec.Ones. -/
import Derived.Test.YtoipbbobkllddaaPop
import Derived.Test.YtoipbbobkllddaaNil
import Derived.Laws.Bits128
namespace Go.Proofs.Ytoipbbobkllddaa
open Go.RowKit

theorem u64_and_lit (a b : Nat) (ha : a < 18446744073709551616) (hb : b < 18446744073709551616) : bits BinOp.and IntKind.u64 (a : Int) (b : Int) = ((a &&& b : Nat) : Int) := u64_and_nat a b ha hb

theorem wrapU (n : Nat) (h : n < 18446744073709551616) : IntKind.u64.wrap (n : Int) = (n : Int) := by
  rw [IntKind.wrap_u64]; omega

theorem div_cast (a b : Nat) : ((a : Int) / (b : Int)) = ((a / b : Nat) : Int) := by simp

theorem pop_num_le (l : List Bool) (n : Nat) : BitsP.pop n (BitsP.num l) ≤ n := BitsP.pop_le _ _

theorem count_take (l : List Bool) (k : Nat) (h : k < l.length) : (l.take (k + 1)).count true = (l.take k).count true + (l.getD k false).toNat := by
  rw [List.take_succ_eq_append_getElem h, List.count_append]
  simp only [List.getD_eq_getElem?_getD, List.getElem?_eq_getElem h, Option.getD_some]
  cases l[k] <;> rfl

end Go.Proofs.Ytoipbbobkllddaa

