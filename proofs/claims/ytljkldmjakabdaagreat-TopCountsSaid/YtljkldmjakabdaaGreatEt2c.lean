/- TopCounts by reckoning: the maps of 2 edges (printed by wip/refl/tops.lean). -/
import Derived.Test.YtljkldmjakabdaaGreatEtG
namespace Go.Proofs.YtljkldmjakabdaaGreat.Ev
open Go
set_option maxRecDepth 1000000

def blk2_8 : Blk := .cells (.node (.node (.node .leaf (some (.int .i64 2)) .leaf) (some (.int .i64 1)) .leaf) (some (.int .i64 3)) (.node .leaf (some (.int .i64 0)) .leaf)) 4 .no
theorem it2_8_0 : ItOk 198 (.slc 105 0 4 4 1 false) 105 blk2_8 0 (some [40, 41, 91, 93]) := ⟨callK Tryz.prog prims 100000 60, 511, .node (.node .leaf none (.node (.node .leaf none (.node (.node .leaf none (.node .leaf (some (.cells (.node (.node (.node .leaf (some (.int .i64 2)) .leaf) (some (.int .i64 1)) .leaf) (some (.int .i64 3)) (.node .leaf (some (.int .i64 0)) .leaf)) 4 .no)) .leaf)) none .leaf)) none .leaf)) none (.node .leaf none (.node .leaf none (.node .leaf none (.node (.node .leaf none (.node .leaf none (.node .leaf none (.node .leaf (some (.cells (.node .leaf (some (.slc 510 0 4 4 1 false)) .leaf) 1 (.var 83))) .leaf)))) none (.node .leaf none (.node .leaf none (.node .leaf none (.node .leaf (some (.cells (.node (.node (.node .leaf (some (.int .u8 3)) .leaf) (some (.int .u8 1)) .leaf) (some (.int .u8 0)) (.node .leaf (some (.int .u8 2)) .leaf)) 4 (.row 5))) .leaf)))))))), .ptr 494 0, 520, callK_ok _ _, by kernel_rfl, by kernel_rfl⟩
theorem it2_8_1 : ItOk 198 (.slc 105 0 4 4 1 false) 105 blk2_8 1 (some [40, 91, 93, 41]) := ⟨callK Tryz.prog prims 100000 60, 511, .node (.node .leaf none (.node (.node .leaf none (.node (.node .leaf none (.node .leaf (some (.cells (.node (.node (.node .leaf (some (.int .i64 2)) .leaf) (some (.int .i64 1)) .leaf) (some (.int .i64 3)) (.node .leaf (some (.int .i64 0)) .leaf)) 4 .no)) .leaf)) none .leaf)) none .leaf)) none (.node .leaf none (.node .leaf none (.node .leaf none (.node (.node .leaf none (.node .leaf none (.node .leaf none (.node .leaf (some (.cells (.node .leaf (some (.slc 510 0 4 4 1 false)) .leaf) 1 (.var 83))) .leaf)))) none (.node .leaf none (.node .leaf none (.node .leaf none (.node .leaf (some (.cells (.node (.node (.node .leaf (some (.int .u8 1)) .leaf) (some (.int .u8 2)) .leaf) (some (.int .u8 0)) (.node .leaf (some (.int .u8 3)) .leaf)) 4 (.row 5))) .leaf)))))))), .ptr 494 0, 520, callK_ok _ _, by kernel_rfl, by kernel_rfl⟩
theorem it2_8_2 : ItOk 198 (.slc 105 0 4 4 1 false) 105 blk2_8 2 (some [91, 40, 41, 93]) := ⟨callK Tryz.prog prims 100000 60, 511, .node (.node .leaf none (.node (.node .leaf none (.node (.node .leaf none (.node .leaf (some (.cells (.node (.node (.node .leaf (some (.int .i64 2)) .leaf) (some (.int .i64 1)) .leaf) (some (.int .i64 3)) (.node .leaf (some (.int .i64 0)) .leaf)) 4 .no)) .leaf)) none .leaf)) none .leaf)) none (.node .leaf none (.node .leaf none (.node .leaf none (.node (.node .leaf none (.node .leaf none (.node .leaf none (.node .leaf (some (.cells (.node .leaf (some (.slc 510 0 4 4 1 false)) .leaf) 1 (.var 83))) .leaf)))) none (.node .leaf none (.node .leaf none (.node .leaf none (.node .leaf (some (.cells (.node (.node (.node .leaf (some (.int .u8 3)) .leaf) (some (.int .u8 0)) .leaf) (some (.int .u8 2)) (.node .leaf (some (.int .u8 1)) .leaf)) 4 (.row 5))) .leaf)))))))), .ptr 494 0, 520, callK_ok _ _, by kernel_rfl, by kernel_rfl⟩
theorem it2_8_3 : ItOk 198 (.slc 105 0 4 4 1 false) 105 blk2_8 3 (some [91, 93, 40, 41]) := ⟨callK Tryz.prog prims 100000 60, 511, .node (.node .leaf none (.node (.node .leaf none (.node (.node .leaf none (.node .leaf (some (.cells (.node (.node (.node .leaf (some (.int .i64 2)) .leaf) (some (.int .i64 1)) .leaf) (some (.int .i64 3)) (.node .leaf (some (.int .i64 0)) .leaf)) 4 .no)) .leaf)) none .leaf)) none .leaf)) none (.node .leaf none (.node .leaf none (.node .leaf none (.node (.node .leaf none (.node .leaf none (.node .leaf none (.node .leaf (some (.cells (.node .leaf (some (.slc 510 0 4 4 1 false)) .leaf) 1 (.var 83))) .leaf)))) none (.node .leaf none (.node .leaf none (.node .leaf none (.node .leaf (some (.cells (.node (.node (.node .leaf (some (.int .u8 1)) .leaf) (some (.int .u8 3)) .leaf) (some (.int .u8 2)) (.node .leaf (some (.int .u8 0)) .leaf)) 4 (.row 5))) .leaf)))))))), .ptr 494 0, 520, callK_ok _ _, by kernel_rfl, by kernel_rfl⟩
theorem it2_8 (k : Nat → Option (List Nat)) (hk : ∀ r, r < 4 → k r = [(some [40, 41, 91, 93]), (some [40, 91, 93, 41]), (some [91, 40, 41, 93]), (some [91, 93, 40, 41])].getD r none) : ∀ r, r < 4 → ItOk 198 (.slc 105 0 4 4 1 false) 105 blk2_8 r (k r) := by
  intro r hr
  rw [hk r hr]
  have : r = 0 ∨ r = 1 ∨ r = 2 ∨ r = 3 := by omega
  rcases this with rfl | rfl | rfl | rfl
  · exact it2_8_0
  · exact it2_8_1
  · exact it2_8_2
  · exact it2_8_3
def blk2_9 : Blk := .cells (.node (.node (.node .leaf (some (.int .i64 2)) .leaf) (some (.int .i64 3)) .leaf) (some (.int .i64 1)) (.node .leaf (some (.int .i64 0)) .leaf)) 4 .no
theorem it2_9_0 : ItOk 198 (.slc 111 0 4 4 1 false) 111 blk2_9 0 (some [91, 93, 91, 93]) := ⟨callK Tryz.prog prims 100000 60, 509, .node (.node (.node (.node (.node .leaf none (.node .leaf none (.node .leaf (some (.cells (.node (.node (.node .leaf (some (.int .i64 2)) .leaf) (some (.int .i64 3)) .leaf) (some (.int .i64 1)) (.node .leaf (some (.int .i64 0)) .leaf)) 4 .no)) .leaf))) none .leaf) none .leaf) none .leaf) none (.node (.node .leaf none (.node .leaf none (.node (.node .leaf none (.node .leaf none (.node .leaf none (.node .leaf (some (.cells (.node .leaf (some (.slc 508 0 4 4 1 false)) .leaf) 1 (.var 83))) .leaf)))) none (.node .leaf none (.node .leaf none (.node .leaf none (.node .leaf (some (.cells (.node (.node (.node .leaf (some (.int .u8 3)) .leaf) (some (.int .u8 3)) .leaf) (some (.int .u8 2)) (.node .leaf (some (.int .u8 2)) .leaf)) 4 (.row 5))) .leaf))))))) none .leaf), .ptr 492 0, 518, callK_ok _ _, by kernel_rfl, by kernel_rfl⟩
theorem it2_9_1 : ItOk 198 (.slc 111 0 4 4 1 false) 111 blk2_9 1 (some [91, 91, 93, 93]) := ⟨callK Tryz.prog prims 100000 60, 509, .node (.node (.node (.node (.node .leaf none (.node .leaf none (.node .leaf (some (.cells (.node (.node (.node .leaf (some (.int .i64 2)) .leaf) (some (.int .i64 3)) .leaf) (some (.int .i64 1)) (.node .leaf (some (.int .i64 0)) .leaf)) 4 .no)) .leaf))) none .leaf) none .leaf) none .leaf) none (.node (.node .leaf none (.node .leaf none (.node (.node .leaf none (.node .leaf none (.node .leaf none (.node .leaf (some (.cells (.node .leaf (some (.slc 508 0 4 4 1 false)) .leaf) 1 (.var 83))) .leaf)))) none (.node .leaf none (.node .leaf none (.node .leaf none (.node .leaf (some (.cells (.node (.node (.node .leaf (some (.int .u8 3)) .leaf) (some (.int .u8 2)) .leaf) (some (.int .u8 2)) (.node .leaf (some (.int .u8 3)) .leaf)) 4 (.row 5))) .leaf))))))) none .leaf), .ptr 492 0, 518, callK_ok _ _, by kernel_rfl, by kernel_rfl⟩
theorem it2_9_2 : ItOk 198 (.slc 111 0 4 4 1 false) 111 blk2_9 2 (some [91, 91, 93, 93]) := ⟨callK Tryz.prog prims 100000 60, 509, .node (.node (.node (.node (.node .leaf none (.node .leaf none (.node .leaf (some (.cells (.node (.node (.node .leaf (some (.int .i64 2)) .leaf) (some (.int .i64 3)) .leaf) (some (.int .i64 1)) (.node .leaf (some (.int .i64 0)) .leaf)) 4 .no)) .leaf))) none .leaf) none .leaf) none .leaf) none (.node (.node .leaf none (.node .leaf none (.node (.node .leaf none (.node .leaf none (.node .leaf none (.node .leaf (some (.cells (.node .leaf (some (.slc 508 0 4 4 1 false)) .leaf) 1 (.var 83))) .leaf)))) none (.node .leaf none (.node .leaf none (.node .leaf none (.node .leaf (some (.cells (.node (.node (.node .leaf (some (.int .u8 3)) .leaf) (some (.int .u8 2)) .leaf) (some (.int .u8 2)) (.node .leaf (some (.int .u8 3)) .leaf)) 4 (.row 5))) .leaf))))))) none .leaf), .ptr 492 0, 518, callK_ok _ _, by kernel_rfl, by kernel_rfl⟩
theorem it2_9_3 : ItOk 198 (.slc 111 0 4 4 1 false) 111 blk2_9 3 (some [91, 93, 91, 93]) := ⟨callK Tryz.prog prims 100000 60, 509, .node (.node (.node (.node (.node .leaf none (.node .leaf none (.node .leaf (some (.cells (.node (.node (.node .leaf (some (.int .i64 2)) .leaf) (some (.int .i64 3)) .leaf) (some (.int .i64 1)) (.node .leaf (some (.int .i64 0)) .leaf)) 4 .no)) .leaf))) none .leaf) none .leaf) none .leaf) none (.node (.node .leaf none (.node .leaf none (.node (.node .leaf none (.node .leaf none (.node .leaf none (.node .leaf (some (.cells (.node .leaf (some (.slc 508 0 4 4 1 false)) .leaf) 1 (.var 83))) .leaf)))) none (.node .leaf none (.node .leaf none (.node .leaf none (.node .leaf (some (.cells (.node (.node (.node .leaf (some (.int .u8 3)) .leaf) (some (.int .u8 3)) .leaf) (some (.int .u8 2)) (.node .leaf (some (.int .u8 2)) .leaf)) 4 (.row 5))) .leaf))))))) none .leaf), .ptr 492 0, 518, callK_ok _ _, by kernel_rfl, by kernel_rfl⟩
theorem it2_9 (k : Nat → Option (List Nat)) (hk : ∀ r, r < 4 → k r = [(some [91, 93, 91, 93]), (some [91, 91, 93, 93]), (some [91, 91, 93, 93]), (some [91, 93, 91, 93])].getD r none) : ∀ r, r < 4 → ItOk 198 (.slc 111 0 4 4 1 false) 111 blk2_9 r (k r) := by
  intro r hr
  rw [hk r hr]
  have : r = 0 ∨ r = 1 ∨ r = 2 ∨ r = 3 := by omega
  rcases this with rfl | rfl | rfl | rfl
  · exact it2_9_0
  · exact it2_9_1
  · exact it2_9_2
  · exact it2_9_3
def blk2_10 : Blk := .cells (.node (.node (.node .leaf (some (.int .i64 2)) .leaf) (some (.int .i64 0)) .leaf) (some (.int .i64 1)) (.node .leaf (some (.int .i64 3)) .leaf)) 4 .no
theorem it2_10_0 : ItOk 198 (.slc 117 0 4 4 1 false) 117 blk2_10 0 none := ⟨callK Tryz.prog prims 100000 60, 375, callK_ok _ _, by kernel_rfl⟩
theorem it2_10_1 : ItOk 198 (.slc 117 0 4 4 1 false) 117 blk2_10 1 none := ⟨callK Tryz.prog prims 100000 60, 375, callK_ok _ _, by kernel_rfl⟩
theorem it2_10_2 : ItOk 198 (.slc 117 0 4 4 1 false) 117 blk2_10 2 none := ⟨callK Tryz.prog prims 100000 60, 375, callK_ok _ _, by kernel_rfl⟩
theorem it2_10_3 : ItOk 198 (.slc 117 0 4 4 1 false) 117 blk2_10 3 none := ⟨callK Tryz.prog prims 100000 60, 375, callK_ok _ _, by kernel_rfl⟩
theorem it2_10 (k : Nat → Option (List Nat)) (hk : ∀ r, r < 4 → k r = [none, none, none, none].getD r none) : ∀ r, r < 4 → ItOk 198 (.slc 117 0 4 4 1 false) 117 blk2_10 r (k r) := by
  intro r hr
  rw [hk r hr]
  have : r = 0 ∨ r = 1 ∨ r = 2 ∨ r = 3 := by omega
  rcases this with rfl | rfl | rfl | rfl
  · exact it2_10_0
  · exact it2_10_1
  · exact it2_10_2
  · exact it2_10_3
def blk2_11 : Blk := .cells (.node (.node (.node .leaf (some (.int .i64 3)) .leaf) (some (.int .i64 0)) .leaf) (some (.int .i64 1)) (.node .leaf (some (.int .i64 2)) .leaf)) 4 .no
theorem it2_11_0 : ItOk 198 (.slc 123 0 4 4 1 false) 123 blk2_11 0 none := ⟨callK Tryz.prog prims 100000 60, 375, callK_ok _ _, by kernel_rfl⟩
theorem it2_11_1 : ItOk 198 (.slc 123 0 4 4 1 false) 123 blk2_11 1 none := ⟨callK Tryz.prog prims 100000 60, 375, callK_ok _ _, by kernel_rfl⟩
theorem it2_11_2 : ItOk 198 (.slc 123 0 4 4 1 false) 123 blk2_11 2 none := ⟨callK Tryz.prog prims 100000 60, 375, callK_ok _ _, by kernel_rfl⟩
theorem it2_11_3 : ItOk 198 (.slc 123 0 4 4 1 false) 123 blk2_11 3 none := ⟨callK Tryz.prog prims 100000 60, 375, callK_ok _ _, by kernel_rfl⟩
theorem it2_11 (k : Nat → Option (List Nat)) (hk : ∀ r, r < 4 → k r = [none, none, none, none].getD r none) : ∀ r, r < 4 → ItOk 198 (.slc 123 0 4 4 1 false) 123 blk2_11 r (k r) := by
  intro r hr
  rw [hk r hr]
  have : r = 0 ∨ r = 1 ∨ r = 2 ∨ r = 3 := by omega
  rcases this with rfl | rfl | rfl | rfl
  · exact it2_11_0
  · exact it2_11_1
  · exact it2_11_2
  · exact it2_11_3

end Go.Proofs.YtljkldmjakabdaaGreat.Ev

