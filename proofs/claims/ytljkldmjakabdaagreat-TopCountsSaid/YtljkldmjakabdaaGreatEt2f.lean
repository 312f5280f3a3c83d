/- TopCounts by reckoning: the maps of 2 edges (printed by wip/refl/tops.lean). -/
import Derived.Test.YtljkldmjakabdaaGreatEtG
namespace Go.Proofs.YtljkldmjakabdaaGreat.Ev
open Go
set_option maxRecDepth 1000000

def blk2_20 : Blk := .cells (.node (.node (.node .leaf (some (.int .i64 2)) .leaf) (some (.int .i64 0)) .leaf) (some (.int .i64 3)) (.node .leaf (some (.int .i64 1)) .leaf)) 4 .no
theorem it2_20_0 : ItOk 198 (.slc 177 0 4 4 1 false) 177 blk2_20 0 (some [91, 91, 93, 93]) := ⟨callK Tryz.prog prims 100000 60, 511, .node (.node .leaf none (.node (.node (.node .leaf none (.node .leaf none (.node (.node .leaf (some (.cells (.node (.node (.node .leaf (some (.int .i64 2)) .leaf) (some (.int .i64 0)) .leaf) (some (.int .i64 3)) (.node .leaf (some (.int .i64 1)) .leaf)) 4 .no)) .leaf) none .leaf))) none .leaf) none .leaf)) none (.node .leaf none (.node .leaf none (.node .leaf none (.node (.node .leaf none (.node .leaf none (.node .leaf none (.node .leaf (some (.cells (.node .leaf (some (.slc 510 0 4 4 1 false)) .leaf) 1 (.var 83))) .leaf)))) none (.node .leaf none (.node .leaf none (.node .leaf none (.node .leaf (some (.cells (.node (.node (.node .leaf (some (.int .u8 3)) .leaf) (some (.int .u8 2)) .leaf) (some (.int .u8 2)) (.node .leaf (some (.int .u8 3)) .leaf)) 4 (.row 5))) .leaf)))))))), .ptr 494 0, 520, callK_ok _ _, by kernel_rfl, by kernel_rfl⟩
theorem it2_20_1 : ItOk 198 (.slc 177 0 4 4 1 false) 177 blk2_20 1 (some [91, 93, 91, 93]) := ⟨callK Tryz.prog prims 100000 60, 511, .node (.node .leaf none (.node (.node (.node .leaf none (.node .leaf none (.node (.node .leaf (some (.cells (.node (.node (.node .leaf (some (.int .i64 2)) .leaf) (some (.int .i64 0)) .leaf) (some (.int .i64 3)) (.node .leaf (some (.int .i64 1)) .leaf)) 4 .no)) .leaf) none .leaf))) none .leaf) none .leaf)) none (.node .leaf none (.node .leaf none (.node .leaf none (.node (.node .leaf none (.node .leaf none (.node .leaf none (.node .leaf (some (.cells (.node .leaf (some (.slc 510 0 4 4 1 false)) .leaf) 1 (.var 83))) .leaf)))) none (.node .leaf none (.node .leaf none (.node .leaf none (.node .leaf (some (.cells (.node (.node (.node .leaf (some (.int .u8 3)) .leaf) (some (.int .u8 3)) .leaf) (some (.int .u8 2)) (.node .leaf (some (.int .u8 2)) .leaf)) 4 (.row 5))) .leaf)))))))), .ptr 494 0, 520, callK_ok _ _, by kernel_rfl, by kernel_rfl⟩
theorem it2_20_2 : ItOk 198 (.slc 177 0 4 4 1 false) 177 blk2_20 2 (some [91, 91, 93, 93]) := ⟨callK Tryz.prog prims 100000 60, 511, .node (.node .leaf none (.node (.node (.node .leaf none (.node .leaf none (.node (.node .leaf (some (.cells (.node (.node (.node .leaf (some (.int .i64 2)) .leaf) (some (.int .i64 0)) .leaf) (some (.int .i64 3)) (.node .leaf (some (.int .i64 1)) .leaf)) 4 .no)) .leaf) none .leaf))) none .leaf) none .leaf)) none (.node .leaf none (.node .leaf none (.node .leaf none (.node (.node .leaf none (.node .leaf none (.node .leaf none (.node .leaf (some (.cells (.node .leaf (some (.slc 510 0 4 4 1 false)) .leaf) 1 (.var 83))) .leaf)))) none (.node .leaf none (.node .leaf none (.node .leaf none (.node .leaf (some (.cells (.node (.node (.node .leaf (some (.int .u8 3)) .leaf) (some (.int .u8 2)) .leaf) (some (.int .u8 2)) (.node .leaf (some (.int .u8 3)) .leaf)) 4 (.row 5))) .leaf)))))))), .ptr 494 0, 520, callK_ok _ _, by kernel_rfl, by kernel_rfl⟩
theorem it2_20_3 : ItOk 198 (.slc 177 0 4 4 1 false) 177 blk2_20 3 (some [91, 93, 91, 93]) := ⟨callK Tryz.prog prims 100000 60, 511, .node (.node .leaf none (.node (.node (.node .leaf none (.node .leaf none (.node (.node .leaf (some (.cells (.node (.node (.node .leaf (some (.int .i64 2)) .leaf) (some (.int .i64 0)) .leaf) (some (.int .i64 3)) (.node .leaf (some (.int .i64 1)) .leaf)) 4 .no)) .leaf) none .leaf))) none .leaf) none .leaf)) none (.node .leaf none (.node .leaf none (.node .leaf none (.node (.node .leaf none (.node .leaf none (.node .leaf none (.node .leaf (some (.cells (.node .leaf (some (.slc 510 0 4 4 1 false)) .leaf) 1 (.var 83))) .leaf)))) none (.node .leaf none (.node .leaf none (.node .leaf none (.node .leaf (some (.cells (.node (.node (.node .leaf (some (.int .u8 3)) .leaf) (some (.int .u8 3)) .leaf) (some (.int .u8 2)) (.node .leaf (some (.int .u8 2)) .leaf)) 4 (.row 5))) .leaf)))))))), .ptr 494 0, 520, callK_ok _ _, by kernel_rfl, by kernel_rfl⟩
theorem it2_20 (k : Nat → Option (List Nat)) (hk : ∀ r, r < 4 → k r = [(some [91, 91, 93, 93]), (some [91, 93, 91, 93]), (some [91, 91, 93, 93]), (some [91, 93, 91, 93])].getD r none) : ∀ r, r < 4 → ItOk 198 (.slc 177 0 4 4 1 false) 177 blk2_20 r (k r) := by
  intro r hr
  rw [hk r hr]
  have : r = 0 ∨ r = 1 ∨ r = 2 ∨ r = 3 := by omega
  rcases this with rfl | rfl | rfl | rfl
  · exact it2_20_0
  · exact it2_20_1
  · exact it2_20_2
  · exact it2_20_3
def blk2_21 : Blk := .cells (.node (.node (.node .leaf (some (.int .i64 2)) .leaf) (some (.int .i64 3)) .leaf) (some (.int .i64 0)) (.node .leaf (some (.int .i64 1)) .leaf)) 4 .no
theorem it2_21_0 : ItOk 198 (.slc 183 0 4 4 1 false) 183 blk2_21 0 (some [40, 91, 93, 41]) := ⟨callK Tryz.prog prims 100000 60, 509, .node (.node (.node (.node .leaf none (.node .leaf none (.node .leaf none (.node (.node .leaf (some (.cells (.node (.node (.node .leaf (some (.int .i64 2)) .leaf) (some (.int .i64 3)) .leaf) (some (.int .i64 0)) (.node .leaf (some (.int .i64 1)) .leaf)) 4 .no)) .leaf) none .leaf)))) none .leaf) none .leaf) none (.node (.node .leaf none (.node .leaf none (.node (.node .leaf none (.node .leaf none (.node .leaf none (.node .leaf (some (.cells (.node .leaf (some (.slc 508 0 4 4 1 false)) .leaf) 1 (.var 83))) .leaf)))) none (.node .leaf none (.node .leaf none (.node .leaf none (.node .leaf (some (.cells (.node (.node (.node .leaf (some (.int .u8 1)) .leaf) (some (.int .u8 2)) .leaf) (some (.int .u8 0)) (.node .leaf (some (.int .u8 3)) .leaf)) 4 (.row 5))) .leaf))))))) none .leaf), .ptr 492 0, 518, callK_ok _ _, by kernel_rfl, by kernel_rfl⟩
theorem it2_21_1 : ItOk 198 (.slc 183 0 4 4 1 false) 183 blk2_21 1 (some [40, 41, 91, 93]) := ⟨callK Tryz.prog prims 100000 60, 509, .node (.node (.node (.node .leaf none (.node .leaf none (.node .leaf none (.node (.node .leaf (some (.cells (.node (.node (.node .leaf (some (.int .i64 2)) .leaf) (some (.int .i64 3)) .leaf) (some (.int .i64 0)) (.node .leaf (some (.int .i64 1)) .leaf)) 4 .no)) .leaf) none .leaf)))) none .leaf) none .leaf) none (.node (.node .leaf none (.node .leaf none (.node (.node .leaf none (.node .leaf none (.node .leaf none (.node .leaf (some (.cells (.node .leaf (some (.slc 508 0 4 4 1 false)) .leaf) 1 (.var 83))) .leaf)))) none (.node .leaf none (.node .leaf none (.node .leaf none (.node .leaf (some (.cells (.node (.node (.node .leaf (some (.int .u8 3)) .leaf) (some (.int .u8 1)) .leaf) (some (.int .u8 0)) (.node .leaf (some (.int .u8 2)) .leaf)) 4 (.row 5))) .leaf))))))) none .leaf), .ptr 492 0, 518, callK_ok _ _, by kernel_rfl, by kernel_rfl⟩
theorem it2_21_2 : ItOk 198 (.slc 183 0 4 4 1 false) 183 blk2_21 2 (some [91, 40, 41, 93]) := ⟨callK Tryz.prog prims 100000 60, 509, .node (.node (.node (.node .leaf none (.node .leaf none (.node .leaf none (.node (.node .leaf (some (.cells (.node (.node (.node .leaf (some (.int .i64 2)) .leaf) (some (.int .i64 3)) .leaf) (some (.int .i64 0)) (.node .leaf (some (.int .i64 1)) .leaf)) 4 .no)) .leaf) none .leaf)))) none .leaf) none .leaf) none (.node (.node .leaf none (.node .leaf none (.node (.node .leaf none (.node .leaf none (.node .leaf none (.node .leaf (some (.cells (.node .leaf (some (.slc 508 0 4 4 1 false)) .leaf) 1 (.var 83))) .leaf)))) none (.node .leaf none (.node .leaf none (.node .leaf none (.node .leaf (some (.cells (.node (.node (.node .leaf (some (.int .u8 3)) .leaf) (some (.int .u8 0)) .leaf) (some (.int .u8 2)) (.node .leaf (some (.int .u8 1)) .leaf)) 4 (.row 5))) .leaf))))))) none .leaf), .ptr 492 0, 518, callK_ok _ _, by kernel_rfl, by kernel_rfl⟩
theorem it2_21_3 : ItOk 198 (.slc 183 0 4 4 1 false) 183 blk2_21 3 (some [91, 93, 40, 41]) := ⟨callK Tryz.prog prims 100000 60, 509, .node (.node (.node (.node .leaf none (.node .leaf none (.node .leaf none (.node (.node .leaf (some (.cells (.node (.node (.node .leaf (some (.int .i64 2)) .leaf) (some (.int .i64 3)) .leaf) (some (.int .i64 0)) (.node .leaf (some (.int .i64 1)) .leaf)) 4 .no)) .leaf) none .leaf)))) none .leaf) none .leaf) none (.node (.node .leaf none (.node .leaf none (.node (.node .leaf none (.node .leaf none (.node .leaf none (.node .leaf (some (.cells (.node .leaf (some (.slc 508 0 4 4 1 false)) .leaf) 1 (.var 83))) .leaf)))) none (.node .leaf none (.node .leaf none (.node .leaf none (.node .leaf (some (.cells (.node (.node (.node .leaf (some (.int .u8 1)) .leaf) (some (.int .u8 3)) .leaf) (some (.int .u8 2)) (.node .leaf (some (.int .u8 0)) .leaf)) 4 (.row 5))) .leaf))))))) none .leaf), .ptr 492 0, 518, callK_ok _ _, by kernel_rfl, by kernel_rfl⟩
theorem it2_21 (k : Nat → Option (List Nat)) (hk : ∀ r, r < 4 → k r = [(some [40, 91, 93, 41]), (some [40, 41, 91, 93]), (some [91, 40, 41, 93]), (some [91, 93, 40, 41])].getD r none) : ∀ r, r < 4 → ItOk 198 (.slc 183 0 4 4 1 false) 183 blk2_21 r (k r) := by
  intro r hr
  rw [hk r hr]
  have : r = 0 ∨ r = 1 ∨ r = 2 ∨ r = 3 := by omega
  rcases this with rfl | rfl | rfl | rfl
  · exact it2_21_0
  · exact it2_21_1
  · exact it2_21_2
  · exact it2_21_3
def blk2_22 : Blk := .cells (.node (.node (.node .leaf (some (.int .i64 2)) .leaf) (some (.int .i64 1)) .leaf) (some (.int .i64 0)) (.node .leaf (some (.int .i64 3)) .leaf)) 4 .no
theorem it2_22_0 : ItOk 198 (.slc 189 0 4 4 1 false) 189 blk2_22 0 none := ⟨callK Tryz.prog prims 100000 60, 375, callK_ok _ _, by kernel_rfl⟩
theorem it2_22_1 : ItOk 198 (.slc 189 0 4 4 1 false) 189 blk2_22 1 none := ⟨callK Tryz.prog prims 100000 60, 375, callK_ok _ _, by kernel_rfl⟩
theorem it2_22_2 : ItOk 198 (.slc 189 0 4 4 1 false) 189 blk2_22 2 none := ⟨callK Tryz.prog prims 100000 60, 375, callK_ok _ _, by kernel_rfl⟩
theorem it2_22_3 : ItOk 198 (.slc 189 0 4 4 1 false) 189 blk2_22 3 none := ⟨callK Tryz.prog prims 100000 60, 375, callK_ok _ _, by kernel_rfl⟩
theorem it2_22 (k : Nat → Option (List Nat)) (hk : ∀ r, r < 4 → k r = [none, none, none, none].getD r none) : ∀ r, r < 4 → ItOk 198 (.slc 189 0 4 4 1 false) 189 blk2_22 r (k r) := by
  intro r hr
  rw [hk r hr]
  have : r = 0 ∨ r = 1 ∨ r = 2 ∨ r = 3 := by omega
  rcases this with rfl | rfl | rfl | rfl
  · exact it2_22_0
  · exact it2_22_1
  · exact it2_22_2
  · exact it2_22_3
def blk2_23 : Blk := .cells (.node (.node (.node .leaf (some (.int .i64 3)) .leaf) (some (.int .i64 1)) .leaf) (some (.int .i64 0)) (.node .leaf (some (.int .i64 2)) .leaf)) 4 .no
theorem it2_23_0 : ItOk 198 (.slc 195 0 4 4 1 false) 195 blk2_23 0 none := ⟨callK Tryz.prog prims 100000 60, 375, callK_ok _ _, by kernel_rfl⟩
theorem it2_23_1 : ItOk 198 (.slc 195 0 4 4 1 false) 195 blk2_23 1 none := ⟨callK Tryz.prog prims 100000 60, 375, callK_ok _ _, by kernel_rfl⟩
theorem it2_23_2 : ItOk 198 (.slc 195 0 4 4 1 false) 195 blk2_23 2 none := ⟨callK Tryz.prog prims 100000 60, 375, callK_ok _ _, by kernel_rfl⟩
theorem it2_23_3 : ItOk 198 (.slc 195 0 4 4 1 false) 195 blk2_23 3 none := ⟨callK Tryz.prog prims 100000 60, 375, callK_ok _ _, by kernel_rfl⟩
theorem it2_23 (k : Nat → Option (List Nat)) (hk : ∀ r, r < 4 → k r = [none, none, none, none].getD r none) : ∀ r, r < 4 → ItOk 198 (.slc 195 0 4 4 1 false) 195 blk2_23 r (k r) := by
  intro r hr
  rw [hk r hr]
  have : r = 0 ∨ r = 1 ∨ r = 2 ∨ r = 3 := by omega
  rcases this with rfl | rfl | rfl | rfl
  · exact it2_23_0
  · exact it2_23_1
  · exact it2_23_2
  · exact it2_23_3

end Go.Proofs.YtljkldmjakabdaaGreat.Ev

