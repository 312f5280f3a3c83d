/- What the walks of perm's laws share: the document's example. -/
import Derived.Test.YtongakmljbebfaaMix
import Derived.Test.YtongakmljbebfaaEqual
namespace Go.Proofs.Ytongakmljbebfaa
open Go.RowKit

theorem perN_eq {xs : List Int} (hp : IsPerm xs) {i : Nat} (hi : i < xs.length) {T : Nat} (h1 : 1 ≤ T) (h2 : walkN xs i T = i) (h3 : ∀ t, 1 ≤ t → t < T → walkN xs i t ≠ i) : perN xs i = T := by
  obtain ⟨a, _, b, c⟩ := perN_spec hp hi
  rcases Nat.lt_trichotomy (perN xs i) T with h | h | h
  · exact absurd b (h3 _ a h)
  · exact h
  · exact absurd h2 (c T h1 h)

theorem isPerm_210 : IsPerm [2, 1, 0] := by unfold IsPerm; decide
theorem orb_210_0 : orbN [2, 1, 0] 0 = [0, 2] := by
  have : perN [2, 1, 0] 0 = 2 := perN_eq isPerm_210 (by decide) (by decide) rfl (fun t h1 h2 => by
    have ht : t = 1 := by omega
    rw [ht]; decide)
  unfold orbN; rw [this]; rfl
theorem orb_210_1 : orbN [2, 1, 0] 1 = [1] := by
  have : perN [2, 1, 0] 1 = 1 := perN_eq isPerm_210 (by decide) (by decide) rfl (fun t h1 h2 => by omega)
  unfold orbN; rw [this]; rfl
theorem lead_210_0 : leadN [2, 1, 0] 0 = 0 := by have := leadN_le_self [2, 1, 0] 0; omega
theorem lead_210_1 : leadN [2, 1, 0] 1 = 1 := by
  have h := leadN_rch [2, 1, 0] 1
  have := (mem_orbN isPerm_210 (x := 1) (by decide) _).2 h
  rw [orb_210_1] at this
  simpa using this
theorem lead_210_2 : leadN [2, 1, 0] 2 = 0 := by
  have := leadN_le [2, 1, 0] 2 (t := 0) ⟨1, rfl⟩
  omega
theorem orbs_210 : orbsN [2, 1, 0] 3 = [[0, 2], [1]] := by
  unfold orbsN
  have h3 : leadsN [2, 1, 0] 3 = leadsN [2, 1, 0] 2 := leadsN_succ_not (by rw [lead_210_2]; decide)
  have h2 : leadsN [2, 1, 0] 2 = leadsN [2, 1, 0] 1 ++ [1] := leadsN_succ_lead lead_210_1
  have h1 : leadsN [2, 1, 0] 1 = leadsN [2, 1, 0] 0 ++ [0] := leadsN_succ_lead lead_210_0
  rw [h3, h2, h1]
  show [orbN [2, 1, 0] 0, orbN [2, 1, 0] 1] = _
  rw [orb_210_0, orb_210_1]
theorem names_210 : namesN [2, 1, 0] = [0, 1, 0] := by
  have h0 : rankN [2, 1, 0] 0 = 0 := rfl
  have h1 : rankN [2, 1, 0] 1 = 1 := rankN_succ_lead lead_210_0
  show [(rankN [2, 1, 0] (leadN [2, 1, 0] 0) : Int), (rankN [2, 1, 0] (leadN [2, 1, 0] 1) : Int), (rankN [2, 1, 0] (leadN [2, 1, 0] 2) : Int)] = _
  rw [lead_210_0, lead_210_1, lead_210_2, h0, h1]; rfl

theorem pair_of {ps : List (Value × List Nat)} {A B : List Nat} (h : ps.map Prod.snd = [A, B]) : ∃ u1 u2, ps = [(u1, A), (u2, B)] := by
  match ps with
  | [] => cases h
  | [q1] => cases h
  | [q1, q2] => 
    simp only [List.map_cons, List.map_nil, List.cons.injEq, and_true] at h
    obtain ⟨rfl, rfl⟩ := h
    exact ⟨q1.1, q2.1, rfl⟩
  | q1 :: q2 :: q3 :: r => simp at h

set_option maxRecDepth 100000 in
set_option maxHeartbeats 4000000 in
theorem awake05_any {w0 w : World} {os : List Thing} (h : St w0 w os) : Calls Try.prog 8 #[] w fun e w' => e = .returned (.bool true) ∧ St w0 w' os := by
  have hrow := World.ownsRow_lit (base := w.heap.size) (e := 3) (size := 1) w #[.int .i64 2, .int .i64 1, .int .i64 0] 3 (Nat.le_refl _) (by decide) (by simp)
  have SR := Lib.hid (h.newRow ((Keeps.refl _ _).alloc (.cells #[.int .i64 2, .int .i64 1, .int .i64 0] 3)) hrow)
  have HP := Lib.hid (permOf_any SR.out (.slice (some ⟨w.heap.size, 0, none⟩) 3 3) [2, 1, 0] (by decide) (fun w' os' h' => h'.reads (E := 3) (by simp [intsOf])))
  have HR3 := Lib.hid (fun (w1 : World) => Reads.made w1 #[.int .i64 0, .int .i64 1, .int .i64 0] 3 (0, 0) 3 (by simp) (by decide))
  have HR2 := Lib.hid (fun (w1 : World) => Reads.made w1 #[.int .i64 0, .int .i64 2] 3 (0, 0) 2 (by simp) (by decide))
  have HR1 := Lib.hid (fun (w1 : World) => Reads.made w1 #[.int .i64 1] 3 (0, 0) 1 (by simp) (by decide))
  clear h hrow
  go_enter Try.func8, Try.ntmps8
  go_wp2_with fail
  refine HP.out.mono ?_
  rintro e w2 (⟨_, p, v, rfl, hS⟩ | ⟨hn, _⟩)
  · have HS := Lib.hid hS
    have HO := Lib.hid (permOrbits_any hS p v [2, 1, 0] (by simp) (by simp) isPerm_210 (by decide))
    clear hS HP SR
    go_wp2_with fail
    refine HO.out.mono ?_
    rintro e w3 ⟨v3, ps, rfl, hps, h3⟩
    rw [show ([2, 1, 0] : List Int).length = 3 from rfl, orbs_210] at hps
    obtain ⟨u1, u2, rfl⟩ := pair_of hps
    have h3' : St w0 w3 (rowT 24 v3 [u1, u2] :: rowT 3 u1 (intsOf [0, 2]) :: rowT 3 u2 (intsOf [1]) :: cellT p (permObj v) :: rowT 3 v (intsOf [2, 1, 0]) :: rowT 3 (.slice (some ⟨w.heap.size, 0, none⟩) 3 3) [.int .i64 2, .int .i64 1, .int .i64 0] :: os) := h3
    clear h3 hps
    have hr1 := h3'.ok (o := rowT 3 u1 (intsOf [0, 2])) (by simp)
    have hr2 := h3'.ok (o := rowT 3 u2 (intsOf [1])) (by simp)
    obtain ⟨a1, c1, rfl, _, _⟩ := ownsRow_slice hr1
    obtain ⟨a2, c2, rfl, _, _⟩ := ownsRow_slice hr2
    have h3r := h3'.rowN (n := 2) rfl
    obtain ⟨g, cap, rfl, hcap1, hcap2⟩ := ownsRow_shape h3r (by decide)
    have S3 := Lib.hid h3'
    have k0 := h3r.cellAt 0 (by decide)
    have k1 := h3r.cellAt 1 (by decide)
    have HRD : Hid (∀ W os', St w0 W (os' ++ (rowT 24 (.slice (some ⟨g, 0, none⟩) 2 cap) [.slice a1 (intsOf [0, 2]).length c1, .slice a2 (intsOf [1]).length c2] :: rowT 3 (.slice a1 (intsOf [0, 2]).length c1) (intsOf [0, 2]) :: rowT 3 (.slice a2 (intsOf [1]).length c2) (intsOf [1]) :: cellT p (permObj v) :: rowT 3 v (intsOf [2, 1, 0]) :: rowT 3 (.slice (some ⟨w.heap.size, 0, none⟩) 3 3) [.int .i64 2, .int .i64 1, .int .i64 0] :: os)) → Reads W (.slice a1 2 c1) (intsOf [0, 2]) ∧ Reads W (.slice a2 1 c2) (intsOf [1]) ∧ W.cell? ⟨g, 1, none⟩ = some (.slice a2 1 c2)) := by
      intro W os' hW
      refine ⟨hW.reads (E := 3) (List.mem_append_right _ (by simp [intsOf])), hW.reads (E := 3) (List.mem_append_right _ (by simp [intsOf])), ?_⟩
      have h9 : W.ownsRow 0 24 1 (.slice (some ⟨g, 0, none⟩) 2 cap) 2 _ := hW.ok (List.mem_append_right _ (List.mem_cons_self ..))
      exact h9.cellAt 1 (by decide)
    clear h3r h3' HO HS
    go_wp2_with fail
    have e1 := equalInts_any (.slice a1 2 c1) (.slice (some ⟨w3.heap.size, 0, none⟩) 2 2) [0, 2] [0, 2] _ (HRD.out _ [] (S3.out.alloc _)).1 (HR2.out w3)
    refine Calls.mono e1 ?_
    rintro e w4 ⟨rfl, m, hw4⟩
    have h4 := (S3.out.alloc (.cells #[.int .i64 0, .int .i64 2] 3)).same (Keeps.drewN _ m)
    rw [← hw4] at h4
    have S4 := Lib.hid h4
    have k4 := (HRD.out _ [] h4).2.2
    clear e1 hw4 h4 k0 k1 S3
    rw [show decide (([0, 2] : List Int) = [0, 2]) = true from rfl]
    go_wp2_with fail
    have e2 := equalInts_any (.slice a2 1 c2) (.slice (some ⟨w4.heap.size, 0, none⟩) 1 1) [1] [1] _ (HRD.out _ [] (S4.out.alloc _)).2.1 (HR1.out w4)
    refine Calls.mono e2 ?_
    rintro e w5 ⟨rfl, m5, hw5⟩
    have h5 := (S4.out.alloc (.cells #[.int .i64 1] 3)).same (Keeps.drewN _ m5)
    rw [← hw5] at h5
    have S5 := Lib.hid h5
    clear e2 hw5 h5 k4 S4
    rw [show decide (([1] : List Int) = [1]) = true from rfl]
    have HN := Lib.hid (permNames_any S5.out p v [2, 1, 0] (by simp) (by simp) isPerm_210 (by decide))
    go_wp2_with fail
    refine HN.out.mono ?_
    rintro e w6 ⟨v6, rfl, h6⟩
    rw [names_210] at h6
    have S6 := Lib.hid h6
    clear h6 HN S5
    go_wp2_with fail
    have e3 := equalInts_any v6 (.slice (some ⟨w6.heap.size, 0, none⟩) 3 3) [0, 1, 0] [0, 1, 0] _ ((S6.out.alloc (.cells #[.int .i64 0, .int .i64 1, .int .i64 0] 3)).reads (List.mem_cons_self ..)) (HR3.out w6)
    refine Calls.mono e3 ?_
    rintro e w7 ⟨rfl, m7, hw7⟩
    have h7 := (S6.out.alloc (.cells #[.int .i64 0, .int .i64 1, .int .i64 0] 3)).same (Keeps.drewN _ m7)
    rw [← hw7] at h7
    have S7 := Lib.hid h7
    clear e3 hw7 h7 S6
    rw [show decide (([0, 1, 0] : List Int) = [0, 1, 0]) = true from rfl]
    go_wp2_with fail
    go_ret
    exact ⟨rfl, S7.out.tail.tail.tail.tail.tail.tail.tail⟩
  · exact absurd isPerm_210 hn
end Go.Proofs.Ytongakmljbebfaa

