/- TopCounts by reckoning: 1 edges, all (printed by wip/refl/tops.lean). -/
import Derived.Test.YtljkldmjakabdaaGreatEt1a
namespace Go.Proofs.YtljkldmjakabdaaGreat.Ev
open Go
set_option maxRecDepth 1000000

noncomputable def hP1 : Hp := .node (.node (.node (.node (.node .leaf (some (.cells (.node (.node .leaf (some (.int .i64 1)) .leaf) (some (.int .i64 0)) .leaf) 2 .no)) .leaf) none .leaf) none .leaf) none (.node (.node (.node .leaf (some (.cells (.node (.node .leaf (some (.slc 15 0 2 2 1 false)) .leaf) (some (.slc 9 0 2 2 1 false)) .leaf) 2 (.row 26))) .leaf) (some (.cells (.node (.node .leaf (some (.int .i64 0)) .leaf) (some (.int .i64 1)) .leaf) 2 .no)) .leaf) none .leaf)) (some (.map [])) .leaf
noncomputable def hO1 : Hp := T.of [(17, .cells (.node (.node .leaf (some (.slc 15 0 2 2 1 false)) .leaf) (some (.slc 9 0 2 2 1 false)) .leaf) 2 (.row 26))]
def sl1 : List At := [.slc 9 0 2 2 1 false, .slc 15 0 2 2 1 false]
def rb1 : List Nat := [9, 15]
def bl1 : List Blk := [blk1_0, blk1_1]
def wd1 : List (List (Option (List Nat))) := [[(some [91, 93]), (some [91, 93])], [(some [40, 41]), (some [40, 41])]]
noncomputable def env1 : Env := ⟨1, 2, 2, 18, .slc 17 0 2 2 1 false, hP1, hO1, fun j => sl1.getD j .nilp, fun j => rb1.getD j 0, fun j => bl1.getD j (.map []), fun j r => (wd1.getD j []).getD r none⟩

theorem r8_1_0 : ((List.range' 0 2).all fun i => (List.range 256).all fun f => isS [(9, .at (env1.sl ((i + f) % 2)))] hO1 18 (evalL noCall 72 1 [kR8, kR9] (T.of [(27, iI i), (7, .at env1.v), (1, .at (.int .u8 (.ofNat f)))]) hO1 18)) = true := by kernel_rfl
theorem r7_1 : ((List.range 2).all fun i => isS [] .leaf 18 (evalL noCall 72 1 [kR7, kIf7] (T.of [(27, iI i), (26, iI 2)]) .leaf 18)) = true := by kernel_rfl
theorem r11_1 : ((List.range 2).all fun r => isS [] .leaf 18 (evalL noCall 72 1 [kR11, kIf11] (T.of [(42, iI r), (41, iI 2)]) .leaf 18)) = true := by kernel_rfl
theorem r19_1 : ((List.range 2).all fun r => isC .norm [(42, iI (r + 1))] .leaf 18 ((codeK Tryz.prog 72 1 kR19).run noCall (T.of [(42, iI r)]) .leaf 18)) = true := by kernel_rfl
theorem r20_1 : ((List.range 2).all fun i => isC .norm [(27, iI (i + 1))] .leaf 18 ((codeK Tryz.prog 72 1 kR20).run noCall (T.of [(27, iI i)]) .leaf 18)) = true := by kernel_rfl
theorem row_1 : ∀ j, j < 2 → env1.hP.get (env1.rb j) = some (env1.blk j) ∧ env1.rb j ≠ 0 ∧ FlatB (env1.blk j) ∧ (T.of [(env1.rb j, env1.blk j)]).get (env1.rb j) = some (env1.blk j) := by
  intro j hj
  have : j = 0 ∨ j = 1 := by omega
  rcases this with rfl | rfl
  · exact ⟨by kernel_rfl, by decide, flat_cells (n := 2) (y := .no) (by kernel_rfl), by kernel_rfl⟩
  · exact ⟨by kernel_rfl, by decide, flat_cells (n := 2) (y := .no) (by kernel_rfl), by kernel_rfl⟩
theorem it_1 : ∀ j r, j < 2 → r < 2 → ItOk 18 (env1.sl j) (env1.rb j) (env1.blk j) r (env1.Wd j r) := by
  intro j r hj hr
  have : j = 0 ∨ j = 1 := by omega
  rcases this with rfl | rfl
  · exact it1_0 _ (fun r _ => rfl) r hr
  · exact it1_1 _ (fun r _ => rfl) r hr
theorem ok1 : EnvOk env1 where
  F0 := by decide
  small := by decide
  it := it_1
  row := row_1
  out := fun id b h => by
    have := T.of_get _ _ _ h
    simp only [List.mem_cons, Prod.mk.injEq, List.not_mem_nil, or_false] at this
    obtain ⟨rfl, rfl⟩ := this
    exact ⟨by decide, by kernel_rfl⟩
  r7 := fun i hi => List.all_eq_true.1 r7_1 i (List.mem_range.2 hi)
  r7x := by kernel_rfl
  r8 := fun i f hi hf => by
    have hi' : i < 2 := hi
    have h : (0 ≤ i ∧ i < 0 + 2) := by omega
    rcases h with h
    · exact List.all_eq_true.1 (List.all_eq_true.1 r8_1_0 i (List.mem_range'_1.2 h)) f (List.mem_range.2 hf)
  r10 := by kernel_rfl
  r11 := fun r hr => List.all_eq_true.1 r11_1 r (List.mem_range.2 hr)
  r11x := by kernel_rfl
  r19 := fun r hr => List.all_eq_true.1 r19_1 r (List.mem_range.2 hr)
  r20 := fun i hi => List.all_eq_true.1 r20_1 i (List.mem_range.2 hi)

def ws1 : List (List Nat) := [[91, 93], [40, 41]]
theorem wsA_1 : ((List.range 2).all fun j => (List.range 2).all fun r => match env1.Wd j r with | some s => ws1.contains s | none => true) = true := by kernel_rfl
theorem wsB_1 : (ws1.all fun s => (List.range 2).any fun j => (List.range 2).any fun r => env1.Wd j r == some s) = true := by kernel_rfl
theorem end1 : EndOk env1 where
  words := by
    refine ⟨ws1, by decide, fun j r s hj hr h => ?_, fun s h => ?_, callK Tryz.prog prims 100000 60, callK_ok _ _, by kernel_rfl⟩
    · have := List.all_eq_true.1 (List.all_eq_true.1 wsA_1 j (List.mem_range.2 hj)) r (List.mem_range.2 hr)
      rw [h] at this
      simpa using this
    · have := List.all_eq_true.1 wsB_1 s h
      obtain ⟨j, hj, this⟩ := List.any_eq_true.1 this
      obtain ⟨r, hr, this⟩ := List.any_eq_true.1 this
      exact ⟨j, r, List.mem_range.1 hj, List.mem_range.1 hr, by simpa using this⟩
  p5 := ⟨callK Tryz.prog prims 100000 60, callK_ok _ _, by kernel_rfl⟩
  p6 := by kernel_rfl
  h0 := by kernel_rfl

end Go.Proofs.YtljkldmjakabdaaGreat.Ev

