/- TopCounts by reckoning: the maps of 1 edges (printed by wip/refl/tops.lean). -/
import Derived.Test.YtljkldmjakabdaaGreatEtG
namespace Go.Proofs.YtljkldmjakabdaaGreat.Ev
open Go
set_option maxRecDepth 1000000

def blk1_0 : Blk := .cells (.node (.node .leaf (some (.int .i64 0)) .leaf) (some (.int .i64 1)) .leaf) 2 .no
theorem it1_0_0 : ItOk 18 (.slc 9 0 2 2 1 false) 9 blk1_0 0 (some [91, 93]) := ⟨callK Tryz.prog prims 100000 60, 220, .node (.node (.node .leaf none (.node (.node .leaf none (.node (.node .leaf none (.node .leaf (some (.cells (.node .leaf (some (.slc 219 0 2 2 1 false)) .leaf) 1 (.var 83))) .leaf)) none .leaf)) none (.node .leaf none (.node (.node .leaf none (.node .leaf (some (.cells (.node (.node .leaf (some (.int .u8 3)) .leaf) (some (.int .u8 2)) .leaf) 2 (.row 5))) .leaf)) none .leaf)))) none (.node (.node .leaf (some (.cells (.node (.node .leaf (some (.int .i64 0)) .leaf) (some (.int .i64 1)) .leaf) 2 .no)) .leaf) none .leaf)) none .leaf, .ptr 211 0, 225, callK_ok _ _, by kernel_rfl, by kernel_rfl⟩
theorem it1_0_1 : ItOk 18 (.slc 9 0 2 2 1 false) 9 blk1_0 1 (some [91, 93]) := ⟨callK Tryz.prog prims 100000 60, 220, .node (.node (.node .leaf none (.node (.node .leaf none (.node (.node .leaf none (.node .leaf (some (.cells (.node .leaf (some (.slc 219 0 2 2 1 false)) .leaf) 1 (.var 83))) .leaf)) none .leaf)) none (.node .leaf none (.node (.node .leaf none (.node .leaf (some (.cells (.node (.node .leaf (some (.int .u8 3)) .leaf) (some (.int .u8 2)) .leaf) 2 (.row 5))) .leaf)) none .leaf)))) none (.node (.node .leaf (some (.cells (.node (.node .leaf (some (.int .i64 0)) .leaf) (some (.int .i64 1)) .leaf) 2 .no)) .leaf) none .leaf)) none .leaf, .ptr 211 0, 225, callK_ok _ _, by kernel_rfl, by kernel_rfl⟩
theorem it1_0 (k : Nat → Option (List Nat)) (hk : ∀ r, r < 2 → k r = [(some [91, 93]), (some [91, 93])].getD r none) : ∀ r, r < 2 → ItOk 18 (.slc 9 0 2 2 1 false) 9 blk1_0 r (k r) := by
  intro r hr
  rw [hk r hr]
  have : r = 0 ∨ r = 1 := by omega
  rcases this with rfl | rfl
  · exact it1_0_0
  · exact it1_0_1
def blk1_1 : Blk := .cells (.node (.node .leaf (some (.int .i64 1)) .leaf) (some (.int .i64 0)) .leaf) 2 .no
theorem it1_1_0 : ItOk 18 (.slc 15 0 2 2 1 false) 15 blk1_1 0 (some [40, 41]) := ⟨callK Tryz.prog prims 100000 60, 220, .node (.node (.node (.node (.node .leaf (some (.cells (.node (.node .leaf (some (.int .i64 1)) .leaf) (some (.int .i64 0)) .leaf) 2 .no)) .leaf) none .leaf) none (.node (.node .leaf none (.node (.node .leaf none (.node .leaf (some (.cells (.node .leaf (some (.slc 219 0 2 2 1 false)) .leaf) 1 (.var 83))) .leaf)) none .leaf)) none (.node .leaf none (.node (.node .leaf none (.node .leaf (some (.cells (.node (.node .leaf (some (.int .u8 1)) .leaf) (some (.int .u8 0)) .leaf) 2 (.row 5))) .leaf)) none .leaf)))) none .leaf) none .leaf, .ptr 211 0, 225, callK_ok _ _, by kernel_rfl, by kernel_rfl⟩
theorem it1_1_1 : ItOk 18 (.slc 15 0 2 2 1 false) 15 blk1_1 1 (some [40, 41]) := ⟨callK Tryz.prog prims 100000 60, 220, .node (.node (.node (.node (.node .leaf (some (.cells (.node (.node .leaf (some (.int .i64 1)) .leaf) (some (.int .i64 0)) .leaf) 2 .no)) .leaf) none .leaf) none (.node (.node .leaf none (.node (.node .leaf none (.node .leaf (some (.cells (.node .leaf (some (.slc 219 0 2 2 1 false)) .leaf) 1 (.var 83))) .leaf)) none .leaf)) none (.node .leaf none (.node (.node .leaf none (.node .leaf (some (.cells (.node (.node .leaf (some (.int .u8 1)) .leaf) (some (.int .u8 0)) .leaf) 2 (.row 5))) .leaf)) none .leaf)))) none .leaf) none .leaf, .ptr 211 0, 225, callK_ok _ _, by kernel_rfl, by kernel_rfl⟩
theorem it1_1 (k : Nat → Option (List Nat)) (hk : ∀ r, r < 2 → k r = [(some [40, 41]), (some [40, 41])].getD r none) : ∀ r, r < 2 → ItOk 18 (.slc 15 0 2 2 1 false) 15 blk1_1 r (k r) := by
  intro r hr
  rw [hk r hr]
  have : r = 0 ∨ r = 1 := by omega
  rcases this with rfl | rfl
  · exact it1_1_0
  · exact it1_1_1

end Go.Proofs.YtljkldmjakabdaaGreat.Ev

