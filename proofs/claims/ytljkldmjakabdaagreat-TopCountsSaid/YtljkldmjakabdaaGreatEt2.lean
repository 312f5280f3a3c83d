/- TopCounts by reckoning: 2 edges, all (printed by wip/refl/tops.lean). -/
import Derived.Test.YtljkldmjakabdaaGreatEt2a
import Derived.Test.YtljkldmjakabdaaGreatEt2b
import Derived.Test.YtljkldmjakabdaaGreatEt2c
import Derived.Test.YtljkldmjakabdaaGreatEt2d
import Derived.Test.YtljkldmjakabdaaGreatEt2e
import Derived.Test.YtljkldmjakabdaaGreatEt2f
namespace Go.Proofs.YtljkldmjakabdaaGreat.Ev
open Go
set_option maxRecDepth 1000000

noncomputable def hP2 : Hp := .node (.node (.node (.node (.node (.node (.node .leaf (some (.cells (.node (.node (.node .leaf (some (.int .i64 0)) .leaf) (some (.int .i64 3)) .leaf) (some (.int .i64 2)) (.node .leaf (some (.int .i64 1)) .leaf)) 4 .no)) .leaf) none (.node (.node .leaf (some (.cells (.node (.node (.node .leaf (some (.int .i64 1)) .leaf) (some (.int .i64 3)) .leaf) (some (.int .i64 0)) (.node .leaf (some (.int .i64 2)) .leaf)) 4 .no)) .leaf) none .leaf)) none (.node .leaf none (.node .leaf (some (.cells (.node (.node (.node .leaf (some (.int .i64 2)) .leaf) (some (.int .i64 3)) .leaf) (some (.int .i64 1)) (.node .leaf (some (.int .i64 0)) .leaf)) 4 .no)) .leaf))) none (.node (.node (.node (.node .leaf (some (.cells (.node (.node (.node .leaf (some (.int .i64 1)) .leaf) (some (.int .i64 3)) .leaf) (some (.int .i64 2)) (.node .leaf (some (.int .i64 0)) .leaf)) 4 .no)) .leaf) none .leaf) none .leaf) none (.node (.node .leaf (some (.cells (.node (.node (.node .leaf (some (.int .i64 0)) .leaf) (some (.int .i64 3)) .leaf) (some (.int .i64 1)) (.node .leaf (some (.int .i64 2)) .leaf)) 4 .no)) .leaf) none (.node (.node .leaf (some (.cells (.node (.node (.node .leaf (some (.int .i64 2)) .leaf) (some (.int .i64 3)) .leaf) (some (.int .i64 0)) (.node .leaf (some (.int .i64 1)) .leaf)) 4 .no)) .leaf) none .leaf)))) none (.node (.node (.node (.node .leaf none (.node .leaf (some (.cells (.node (.node (.node .leaf (some (.int .i64 3)) .leaf) (some (.int .i64 1)) .leaf) (some (.int .i64 0)) (.node .leaf (some (.int .i64 2)) .leaf)) 4 .no)) .leaf)) none (.node .leaf (some (.cells (.node (.node (.node .leaf (some (.int .i64 3)) .leaf) (some (.int .i64 2)) .leaf) (some (.int .i64 1)) (.node .leaf (some (.int .i64 0)) .leaf)) 4 .no)) .leaf)) none (.node (.node (.node .leaf (some (.cells (.node (.node (.node .leaf (some (.int .i64 3)) .leaf) (some (.int .i64 0)) .leaf) (some (.int .i64 2)) (.node .leaf (some (.int .i64 1)) .leaf)) 4 .no)) .leaf) none .leaf) none .leaf)) none (.node (.node (.node .leaf (some (.cells (.node (.node (.node .leaf (some (.int .i64 3)) .leaf) (some (.int .i64 1)) .leaf) (some (.int .i64 2)) (.node .leaf (some (.int .i64 0)) .leaf)) 4 .no)) .leaf) none (.node (.node .leaf (some (.cells (.node (.node (.node .leaf (some (.int .i64 3)) .leaf) (some (.int .i64 2)) .leaf) (some (.int .i64 0)) (.node .leaf (some (.int .i64 1)) .leaf)) 4 .no)) .leaf) none .leaf)) none (.node .leaf none (.node .leaf (some (.cells (.node (.node (.node .leaf (some (.int .i64 3)) .leaf) (some (.int .i64 0)) .leaf) (some (.int .i64 1)) (.node .leaf (some (.int .i64 2)) .leaf)) 4 .no)) .leaf))))) none (.node (.node (.node (.node (.node (.node .leaf (some (.cells (.node (.node (.node .leaf (some (.int .i64 1)) .leaf) (some (.int .i64 2)) .leaf) (some (.int .i64 3)) (.node .leaf (some (.int .i64 0)) .leaf)) 4 .no)) .leaf) none .leaf) none .leaf) none (.node (.node .leaf (some (.cells (.node (.node (.node .leaf (some (.int .i64 0)) .leaf) (some (.int .i64 1)) .leaf) (some (.int .i64 3)) (.node .leaf (some (.int .i64 2)) .leaf)) 4 .no)) .leaf) none (.node (.node .leaf (some (.cells (.node (.node (.node .leaf (some (.int .i64 2)) .leaf) (some (.int .i64 0)) .leaf) (some (.int .i64 3)) (.node .leaf (some (.int .i64 1)) .leaf)) 4 .no)) .leaf) none .leaf))) none (.node (.node .leaf none (.node .leaf (some (.cells (.node (.node (.node .leaf (some (.int .i64 2)) .leaf) (some (.int .i64 1)) .leaf) (some (.int .i64 3)) (.node .leaf (some (.int .i64 0)) .leaf)) 4 .no)) .leaf)) none (.node (.node (.node .leaf (some (.cells (.node (.node (.node .leaf (some (.int .i64 1)) .leaf) (some (.int .i64 0)) .leaf) (some (.int .i64 3)) (.node .leaf (some (.int .i64 2)) .leaf)) 4 .no)) .leaf) none .leaf) (some (.cells (.node (.node (.node .leaf (some (.int .i64 0)) .leaf) (some (.int .i64 2)) .leaf) (some (.int .i64 3)) (.node .leaf (some (.int .i64 1)) .leaf)) 4 .no)) .leaf))) none (.node (.node (.node (.node .leaf (some (.cells (.node (.node (.node .leaf (some (.int .i64 0)) .leaf) (some (.int .i64 1)) .leaf) (some (.int .i64 2)) (.node .leaf (some (.int .i64 3)) .leaf)) 4 .no)) (.node .leaf (some (.cells (.node (.node (.node (.node (.node .leaf (some (.slc 147 0 4 4 1 false)) .leaf) (some (.slc 99 0 4 4 1 false)) (.node .leaf (some (.slc 195 0 4 4 1 false)) .leaf)) (some (.slc 75 0 4 4 1 false)) (.node (.node .leaf (some (.slc 171 0 4 4 1 false)) .leaf) (some (.slc 123 0 4 4 1 false)) .leaf)) (some (.slc 63 0 4 4 1 false)) (.node (.node (.node .leaf (some (.slc 159 0 4 4 1 false)) .leaf) (some (.slc 111 0 4 4 1 false)) .leaf) (some (.slc 87 0 4 4 1 false)) (.node (.node .leaf (some (.slc 183 0 4 4 1 false)) .leaf) (some (.slc 135 0 4 4 1 false)) .leaf))) (some (.slc 57 0 4 4 1 false)) (.node (.node (.node (.node .leaf (some (.slc 153 0 4 4 1 false)) .leaf) (some (.slc 105 0 4 4 1 false)) .leaf) (some (.slc 81 0 4 4 1 false)) (.node (.node .leaf (some (.slc 177 0 4 4 1 false)) .leaf) (some (.slc 129 0 4 4 1 false)) .leaf)) (some (.slc 69 0 4 4 1 false)) (.node (.node (.node .leaf (some (.slc 165 0 4 4 1 false)) .leaf) (some (.slc 117 0 4 4 1 false)) .leaf) (some (.slc 93 0 4 4 1 false)) (.node (.node .leaf (some (.slc 189 0 4 4 1 false)) .leaf) (some (.slc 141 0 4 4 1 false)) .leaf)))) 24 (.row 26))) .leaf)) none (.node (.node .leaf (some (.cells (.node (.node (.node .leaf (some (.int .i64 1)) .leaf) (some (.int .i64 2)) .leaf) (some (.int .i64 0)) (.node .leaf (some (.int .i64 3)) .leaf)) 4 .no)) .leaf) none .leaf)) none (.node .leaf none (.node .leaf (some (.cells (.node (.node (.node .leaf (some (.int .i64 2)) .leaf) (some (.int .i64 0)) .leaf) (some (.int .i64 1)) (.node .leaf (some (.int .i64 3)) .leaf)) 4 .no)) .leaf))) none (.node (.node (.node (.node .leaf (some (.cells (.node (.node (.node .leaf (some (.int .i64 1)) .leaf) (some (.int .i64 0)) .leaf) (some (.int .i64 2)) (.node .leaf (some (.int .i64 3)) .leaf)) 4 .no)) .leaf) none .leaf) none .leaf) none (.node (.node .leaf (some (.cells (.node (.node (.node .leaf (some (.int .i64 0)) .leaf) (some (.int .i64 2)) .leaf) (some (.int .i64 1)) (.node .leaf (some (.int .i64 3)) .leaf)) 4 .no)) .leaf) none (.node (.node .leaf (some (.cells (.node (.node (.node .leaf (some (.int .i64 2)) .leaf) (some (.int .i64 1)) .leaf) (some (.int .i64 0)) (.node .leaf (some (.int .i64 3)) .leaf)) 4 .no)) .leaf) none .leaf)))))) (some (.map [])) .leaf
noncomputable def hO2 : Hp := T.of [(197, .cells (.node (.node (.node (.node (.node .leaf (some (.slc 147 0 4 4 1 false)) .leaf) (some (.slc 99 0 4 4 1 false)) (.node .leaf (some (.slc 195 0 4 4 1 false)) .leaf)) (some (.slc 75 0 4 4 1 false)) (.node (.node .leaf (some (.slc 171 0 4 4 1 false)) .leaf) (some (.slc 123 0 4 4 1 false)) .leaf)) (some (.slc 63 0 4 4 1 false)) (.node (.node (.node .leaf (some (.slc 159 0 4 4 1 false)) .leaf) (some (.slc 111 0 4 4 1 false)) .leaf) (some (.slc 87 0 4 4 1 false)) (.node (.node .leaf (some (.slc 183 0 4 4 1 false)) .leaf) (some (.slc 135 0 4 4 1 false)) .leaf))) (some (.slc 57 0 4 4 1 false)) (.node (.node (.node (.node .leaf (some (.slc 153 0 4 4 1 false)) .leaf) (some (.slc 105 0 4 4 1 false)) .leaf) (some (.slc 81 0 4 4 1 false)) (.node (.node .leaf (some (.slc 177 0 4 4 1 false)) .leaf) (some (.slc 129 0 4 4 1 false)) .leaf)) (some (.slc 69 0 4 4 1 false)) (.node (.node (.node .leaf (some (.slc 165 0 4 4 1 false)) .leaf) (some (.slc 117 0 4 4 1 false)) .leaf) (some (.slc 93 0 4 4 1 false)) (.node (.node .leaf (some (.slc 189 0 4 4 1 false)) .leaf) (some (.slc 141 0 4 4 1 false)) .leaf)))) 24 (.row 26))]
def sl2 : List At := [.slc 57 0 4 4 1 false, .slc 63 0 4 4 1 false, .slc 69 0 4 4 1 false, .slc 75 0 4 4 1 false, .slc 81 0 4 4 1 false, .slc 87 0 4 4 1 false, .slc 93 0 4 4 1 false, .slc 99 0 4 4 1 false, .slc 105 0 4 4 1 false, .slc 111 0 4 4 1 false, .slc 117 0 4 4 1 false, .slc 123 0 4 4 1 false, .slc 129 0 4 4 1 false, .slc 135 0 4 4 1 false, .slc 141 0 4 4 1 false, .slc 147 0 4 4 1 false, .slc 153 0 4 4 1 false, .slc 159 0 4 4 1 false, .slc 165 0 4 4 1 false, .slc 171 0 4 4 1 false, .slc 177 0 4 4 1 false, .slc 183 0 4 4 1 false, .slc 189 0 4 4 1 false, .slc 195 0 4 4 1 false]
def rb2 : List Nat := [57, 63, 69, 75, 81, 87, 93, 99, 105, 111, 117, 123, 129, 135, 141, 147, 153, 159, 165, 171, 177, 183, 189, 195]
def bl2 : List Blk := [blk2_0, blk2_1, blk2_2, blk2_3, blk2_4, blk2_5, blk2_6, blk2_7, blk2_8, blk2_9, blk2_10, blk2_11, blk2_12, blk2_13, blk2_14, blk2_15, blk2_16, blk2_17, blk2_18, blk2_19, blk2_20, blk2_21, blk2_22, blk2_23]
def wd2 : List (List (Option (List Nat))) := [[(some [40, 91, 41, 93]), (some [40, 91, 41, 93]), (some [40, 91, 41, 93]), (some [40, 91, 41, 93])], [none, none, none, none], [(some [40, 41, 91, 93]), (some [40, 91, 93, 41]), (some [91, 93, 40, 41]), (some [91, 40, 41, 93])], [(some [40, 41, 40, 41]), (some [40, 40, 41, 41]), (some [40, 41, 40, 41]), (some [40, 40, 41, 41])], [(some [40, 41, 40, 41]), (some [40, 40, 41, 41]), (some [40, 40, 41, 41]), (some [40, 41, 40, 41])], [(some [91, 93, 40, 41]), (some [91, 40, 41, 93]), (some [40, 91, 93, 41]), (some [40, 41, 91, 93])], [(some [91, 93, 91, 93]), (some [91, 91, 93, 93]), (some [91, 93, 91, 93]), (some [91, 91, 93, 93])], [(some [91, 93, 40, 41]), (some [91, 40, 41, 93]), (some [40, 41, 91, 93]), (some [40, 91, 93, 41])], [(some [40, 41, 91, 93]), (some [40, 91, 93, 41]), (some [91, 40, 41, 93]), (some [91, 93, 40, 41])], [(some [91, 93, 91, 93]), (some [91, 91, 93, 93]), (some [91, 91, 93, 93]), (some [91, 93, 91, 93])], [none, none, none, none], [none, none, none, none], [none, none, none, none], [(some [40, 91, 41, 93]), (some [40, 91, 41, 93]), (some [40, 91, 41, 93]), (some [40, 91, 41, 93])], [(some [91, 91, 93, 93]), (some [91, 93, 91, 93]), (some [91, 93, 91, 93]), (some [91, 91, 93, 93])], [(some [91, 40, 41, 93]), (some [91, 93, 40, 41]), (some [40, 41, 91, 93]), (some [40, 91, 93, 41])], [(some [91, 40, 41, 93]), (some [91, 93, 40, 41]), (some [40, 91, 93, 41]), (some [40, 41, 91, 93])], [(some [40, 40, 41, 41]), (some [40, 41, 40, 41]), (some [40, 40, 41, 41]), (some [40, 41, 40, 41])], [(some [40, 91, 93, 41]), (some [40, 41, 91, 93]), (some [91, 93, 40, 41]), (some [91, 40, 41, 93])], [(some [40, 40, 41, 41]), (some [40, 41, 40, 41]), (some [40, 41, 40, 41]), (some [40, 40, 41, 41])], [(some [91, 91, 93, 93]), (some [91, 93, 91, 93]), (some [91, 91, 93, 93]), (some [91, 93, 91, 93])], [(some [40, 91, 93, 41]), (some [40, 41, 91, 93]), (some [91, 40, 41, 93]), (some [91, 93, 40, 41])], [none, none, none, none], [none, none, none, none]]
noncomputable def env2 : Env := ⟨2, 4, 24, 198, .slc 197 0 24 24 1 false, hP2, hO2, fun j => sl2.getD j .nilp, fun j => rb2.getD j 0, fun j => bl2.getD j (.map []), fun j r => (wd2.getD j []).getD r none⟩

theorem r8_2_0 : ((List.range' 0 6).all fun i => (List.range 256).all fun f => isS [(9, .at (env2.sl ((i + f) % 24)))] hO2 198 (evalL noCall 72 1 [kR8, kR9] (T.of [(27, iI i), (7, .at env2.v), (1, .at (.int .u8 (.ofNat f)))]) hO2 198)) = true := by kernel_rfl
theorem r8_2_6 : ((List.range' 6 6).all fun i => (List.range 256).all fun f => isS [(9, .at (env2.sl ((i + f) % 24)))] hO2 198 (evalL noCall 72 1 [kR8, kR9] (T.of [(27, iI i), (7, .at env2.v), (1, .at (.int .u8 (.ofNat f)))]) hO2 198)) = true := by kernel_rfl
theorem r8_2_12 : ((List.range' 12 6).all fun i => (List.range 256).all fun f => isS [(9, .at (env2.sl ((i + f) % 24)))] hO2 198 (evalL noCall 72 1 [kR8, kR9] (T.of [(27, iI i), (7, .at env2.v), (1, .at (.int .u8 (.ofNat f)))]) hO2 198)) = true := by kernel_rfl
theorem r8_2_18 : ((List.range' 18 6).all fun i => (List.range 256).all fun f => isS [(9, .at (env2.sl ((i + f) % 24)))] hO2 198 (evalL noCall 72 1 [kR8, kR9] (T.of [(27, iI i), (7, .at env2.v), (1, .at (.int .u8 (.ofNat f)))]) hO2 198)) = true := by kernel_rfl
theorem r7_2 : ((List.range 24).all fun i => isS [] .leaf 198 (evalL noCall 72 1 [kR7, kIf7] (T.of [(27, iI i), (26, iI 24)]) .leaf 198)) = true := by kernel_rfl
theorem r11_2 : ((List.range 4).all fun r => isS [] .leaf 198 (evalL noCall 72 1 [kR11, kIf11] (T.of [(42, iI r), (41, iI 4)]) .leaf 198)) = true := by kernel_rfl
theorem r19_2 : ((List.range 4).all fun r => isC .norm [(42, iI (r + 1))] .leaf 198 ((codeK Tryz.prog 72 1 kR19).run noCall (T.of [(42, iI r)]) .leaf 198)) = true := by kernel_rfl
theorem r20_2 : ((List.range 24).all fun i => isC .norm [(27, iI (i + 1))] .leaf 198 ((codeK Tryz.prog 72 1 kR20).run noCall (T.of [(27, iI i)]) .leaf 198)) = true := by kernel_rfl
theorem row_2 : ∀ j, j < 24 → env2.hP.get (env2.rb j) = some (env2.blk j) ∧ env2.rb j ≠ 0 ∧ FlatB (env2.blk j) ∧ (T.of [(env2.rb j, env2.blk j)]).get (env2.rb j) = some (env2.blk j) := by
  intro j hj
  have : j = 0 ∨ j = 1 ∨ j = 2 ∨ j = 3 ∨ j = 4 ∨ j = 5 ∨ j = 6 ∨ j = 7 ∨ j = 8 ∨ j = 9 ∨ j = 10 ∨ j = 11 ∨ j = 12 ∨ j = 13 ∨ j = 14 ∨ j = 15 ∨ j = 16 ∨ j = 17 ∨ j = 18 ∨ j = 19 ∨ j = 20 ∨ j = 21 ∨ j = 22 ∨ j = 23 := by omega
  rcases this with rfl | rfl | rfl | rfl | rfl | rfl | rfl | rfl | rfl | rfl | rfl | rfl | rfl | rfl | rfl | rfl | rfl | rfl | rfl | rfl | rfl | rfl | rfl | rfl
  · exact ⟨by kernel_rfl, by decide, flat_cells (n := 4) (y := .no) (by kernel_rfl), by kernel_rfl⟩
  · exact ⟨by kernel_rfl, by decide, flat_cells (n := 4) (y := .no) (by kernel_rfl), by kernel_rfl⟩
  · exact ⟨by kernel_rfl, by decide, flat_cells (n := 4) (y := .no) (by kernel_rfl), by kernel_rfl⟩
  · exact ⟨by kernel_rfl, by decide, flat_cells (n := 4) (y := .no) (by kernel_rfl), by kernel_rfl⟩
  · exact ⟨by kernel_rfl, by decide, flat_cells (n := 4) (y := .no) (by kernel_rfl), by kernel_rfl⟩
  · exact ⟨by kernel_rfl, by decide, flat_cells (n := 4) (y := .no) (by kernel_rfl), by kernel_rfl⟩
  · exact ⟨by kernel_rfl, by decide, flat_cells (n := 4) (y := .no) (by kernel_rfl), by kernel_rfl⟩
  · exact ⟨by kernel_rfl, by decide, flat_cells (n := 4) (y := .no) (by kernel_rfl), by kernel_rfl⟩
  · exact ⟨by kernel_rfl, by decide, flat_cells (n := 4) (y := .no) (by kernel_rfl), by kernel_rfl⟩
  · exact ⟨by kernel_rfl, by decide, flat_cells (n := 4) (y := .no) (by kernel_rfl), by kernel_rfl⟩
  · exact ⟨by kernel_rfl, by decide, flat_cells (n := 4) (y := .no) (by kernel_rfl), by kernel_rfl⟩
  · exact ⟨by kernel_rfl, by decide, flat_cells (n := 4) (y := .no) (by kernel_rfl), by kernel_rfl⟩
  · exact ⟨by kernel_rfl, by decide, flat_cells (n := 4) (y := .no) (by kernel_rfl), by kernel_rfl⟩
  · exact ⟨by kernel_rfl, by decide, flat_cells (n := 4) (y := .no) (by kernel_rfl), by kernel_rfl⟩
  · exact ⟨by kernel_rfl, by decide, flat_cells (n := 4) (y := .no) (by kernel_rfl), by kernel_rfl⟩
  · exact ⟨by kernel_rfl, by decide, flat_cells (n := 4) (y := .no) (by kernel_rfl), by kernel_rfl⟩
  · exact ⟨by kernel_rfl, by decide, flat_cells (n := 4) (y := .no) (by kernel_rfl), by kernel_rfl⟩
  · exact ⟨by kernel_rfl, by decide, flat_cells (n := 4) (y := .no) (by kernel_rfl), by kernel_rfl⟩
  · exact ⟨by kernel_rfl, by decide, flat_cells (n := 4) (y := .no) (by kernel_rfl), by kernel_rfl⟩
  · exact ⟨by kernel_rfl, by decide, flat_cells (n := 4) (y := .no) (by kernel_rfl), by kernel_rfl⟩
  · exact ⟨by kernel_rfl, by decide, flat_cells (n := 4) (y := .no) (by kernel_rfl), by kernel_rfl⟩
  · exact ⟨by kernel_rfl, by decide, flat_cells (n := 4) (y := .no) (by kernel_rfl), by kernel_rfl⟩
  · exact ⟨by kernel_rfl, by decide, flat_cells (n := 4) (y := .no) (by kernel_rfl), by kernel_rfl⟩
  · exact ⟨by kernel_rfl, by decide, flat_cells (n := 4) (y := .no) (by kernel_rfl), by kernel_rfl⟩
theorem it_2 : ∀ j r, j < 24 → r < 4 → ItOk 198 (env2.sl j) (env2.rb j) (env2.blk j) r (env2.Wd j r) := by
  intro j r hj hr
  have : j = 0 ∨ j = 1 ∨ j = 2 ∨ j = 3 ∨ j = 4 ∨ j = 5 ∨ j = 6 ∨ j = 7 ∨ j = 8 ∨ j = 9 ∨ j = 10 ∨ j = 11 ∨ j = 12 ∨ j = 13 ∨ j = 14 ∨ j = 15 ∨ j = 16 ∨ j = 17 ∨ j = 18 ∨ j = 19 ∨ j = 20 ∨ j = 21 ∨ j = 22 ∨ j = 23 := by omega
  rcases this with rfl | rfl | rfl | rfl | rfl | rfl | rfl | rfl | rfl | rfl | rfl | rfl | rfl | rfl | rfl | rfl | rfl | rfl | rfl | rfl | rfl | rfl | rfl | rfl
  · exact it2_0 _ (fun r _ => rfl) r hr
  · exact it2_1 _ (fun r _ => rfl) r hr
  · exact it2_2 _ (fun r _ => rfl) r hr
  · exact it2_3 _ (fun r _ => rfl) r hr
  · exact it2_4 _ (fun r _ => rfl) r hr
  · exact it2_5 _ (fun r _ => rfl) r hr
  · exact it2_6 _ (fun r _ => rfl) r hr
  · exact it2_7 _ (fun r _ => rfl) r hr
  · exact it2_8 _ (fun r _ => rfl) r hr
  · exact it2_9 _ (fun r _ => rfl) r hr
  · exact it2_10 _ (fun r _ => rfl) r hr
  · exact it2_11 _ (fun r _ => rfl) r hr
  · exact it2_12 _ (fun r _ => rfl) r hr
  · exact it2_13 _ (fun r _ => rfl) r hr
  · exact it2_14 _ (fun r _ => rfl) r hr
  · exact it2_15 _ (fun r _ => rfl) r hr
  · exact it2_16 _ (fun r _ => rfl) r hr
  · exact it2_17 _ (fun r _ => rfl) r hr
  · exact it2_18 _ (fun r _ => rfl) r hr
  · exact it2_19 _ (fun r _ => rfl) r hr
  · exact it2_20 _ (fun r _ => rfl) r hr
  · exact it2_21 _ (fun r _ => rfl) r hr
  · exact it2_22 _ (fun r _ => rfl) r hr
  · exact it2_23 _ (fun r _ => rfl) r hr
theorem ok2 : EnvOk env2 where
  F0 := by decide
  small := by decide
  it := it_2
  row := row_2
  out := fun id b h => by
    have := T.of_get _ _ _ h
    simp only [List.mem_cons, Prod.mk.injEq, List.not_mem_nil, or_false] at this
    obtain ⟨rfl, rfl⟩ := this
    exact ⟨by decide, by kernel_rfl⟩
  r7 := fun i hi => List.all_eq_true.1 r7_2 i (List.mem_range.2 hi)
  r7x := by kernel_rfl
  r8 := fun i f hi hf => by
    have hi' : i < 24 := hi
    have h : (0 ≤ i ∧ i < 0 + 6) ∨ (6 ≤ i ∧ i < 6 + 6) ∨ (12 ≤ i ∧ i < 12 + 6) ∨ (18 ≤ i ∧ i < 18 + 6) := by omega
    rcases h with h | h | h | h
    · exact List.all_eq_true.1 (List.all_eq_true.1 r8_2_0 i (List.mem_range'_1.2 h)) f (List.mem_range.2 hf)
    · exact List.all_eq_true.1 (List.all_eq_true.1 r8_2_6 i (List.mem_range'_1.2 h)) f (List.mem_range.2 hf)
    · exact List.all_eq_true.1 (List.all_eq_true.1 r8_2_12 i (List.mem_range'_1.2 h)) f (List.mem_range.2 hf)
    · exact List.all_eq_true.1 (List.all_eq_true.1 r8_2_18 i (List.mem_range'_1.2 h)) f (List.mem_range.2 hf)
  r10 := by kernel_rfl
  r11 := fun r hr => List.all_eq_true.1 r11_2 r (List.mem_range.2 hr)
  r11x := by kernel_rfl
  r19 := fun r hr => List.all_eq_true.1 r19_2 r (List.mem_range.2 hr)
  r20 := fun i hi => List.all_eq_true.1 r20_2 i (List.mem_range.2 hi)

def ws2 : List (List Nat) := [[40, 91, 41, 93], [40, 41, 91, 93], [40, 91, 93, 41], [91, 93, 40, 41], [91, 40, 41, 93], [40, 41, 40, 41], [40, 40, 41, 41], [91, 93, 91, 93], [91, 91, 93, 93]]
theorem wsA_2 : ((List.range 24).all fun j => (List.range 4).all fun r => match env2.Wd j r with | some s => ws2.contains s | none => true) = true := by kernel_rfl
theorem wsB_2 : (ws2.all fun s => (List.range 24).any fun j => (List.range 4).any fun r => env2.Wd j r == some s) = true := by kernel_rfl
theorem end2 : EndOk env2 where
  words := by
    refine ⟨ws2, by decide, fun j r s hj hr h => ?_, fun s h => ?_, callK Tryz.prog prims 100000 60, callK_ok _ _, by kernel_rfl⟩
    · have := List.all_eq_true.1 (List.all_eq_true.1 wsA_2 j (List.mem_range.2 hj)) r (List.mem_range.2 hr)
      rw [h] at this
      simpa using this
    · have := List.all_eq_true.1 wsB_2 s h
      obtain ⟨j, hj, this⟩ := List.any_eq_true.1 this
      obtain ⟨r, hr, this⟩ := List.any_eq_true.1 this
      exact ⟨j, r, List.mem_range.1 hj, List.mem_range.1 hr, by simpa using this⟩
  p5 := ⟨callK Tryz.prog prims 100000 60, callK_ok _ _, by kernel_rfl⟩
  p6 := by kernel_rfl
  h0 := by kernel_rfl

end Go.Proofs.YtljkldmjakabdaaGreat.Ev

