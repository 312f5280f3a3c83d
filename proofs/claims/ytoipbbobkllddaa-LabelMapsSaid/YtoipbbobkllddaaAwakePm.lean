/- What the walks of perm's laws share: the document's example. -/
import Derived.Test.YtoipbbobkllddaaMix
import Derived.Test.YtoipbbobkllddaaEqual
namespace Go.Proofs.Ytoipbbobkllddaa
open Go.RowKit

theorem perN_eq {xs : List Int} (hp : IsPerm xs) {i : Nat} (hi : i < xs.length) {T : Nat} (h1 : 1 ≤ T) (h2 : walkN xs i T = i) (h3 : ∀ t, 1 ≤ t → t < T → walkN xs i t ≠ i) : perN xs i = T := by
  obtain ⟨a, _, b, c⟩ := perN_spec hp hi
  rcases Nat.lt_trichotomy (perN xs i) T with h | h | h
  · exact absurd b (h3 _ a h)
  · exact h
  · exact absurd h2 (c T h1 h)

theorem isPerm_210 : IsPerm [2, 1, 0] := by unfold IsPerm; decide
theorem orb_210_0 : orbN [2, 1, 0] 0 = [0, 2] := by
  have : perN [2, 1, 0] 0 = 2 := perN_eq isPerm_210 (by decide) (by decide) rfl (fun t h1 h2 => by
    have ht : t = 1 := by omega
    rw [ht]; decide)
  unfold orbN; rw [this]; rfl
theorem orb_210_1 : orbN [2, 1, 0] 1 = [1] := by
  have : perN [2, 1, 0] 1 = 1 := perN_eq isPerm_210 (by decide) (by decide) rfl (fun t h1 h2 => by omega)
  unfold orbN; rw [this]; rfl
theorem lead_210_0 : leadN [2, 1, 0] 0 = 0 := by have := leadN_le_self [2, 1, 0] 0; omega
theorem lead_210_1 : leadN [2, 1, 0] 1 = 1 := by
  have h := leadN_rch [2, 1, 0] 1
  have := (mem_orbN isPerm_210 (x := 1) (by decide) _).2 h
  rw [orb_210_1] at this
  simpa using this
theorem lead_210_2 : leadN [2, 1, 0] 2 = 0 := by
  have := leadN_le [2, 1, 0] 2 (t := 0) ⟨1, rfl⟩
  omega
theorem orbs_210 : orbsN [2, 1, 0] 3 = [[0, 2], [1]] := by
  unfold orbsN
  have h3 : leadsN [2, 1, 0] 3 = leadsN [2, 1, 0] 2 := leadsN_succ_not (by rw [lead_210_2]; decide)
  have h2 : leadsN [2, 1, 0] 2 = leadsN [2, 1, 0] 1 ++ [1] := leadsN_succ_lead lead_210_1
  have h1 : leadsN [2, 1, 0] 1 = leadsN [2, 1, 0] 0 ++ [0] := leadsN_succ_lead lead_210_0
  rw [h3, h2, h1]
  show [orbN [2, 1, 0] 0, orbN [2, 1, 0] 1] = _
  rw [orb_210_0, orb_210_1]
theorem names_210 : namesN [2, 1, 0] = [0, 1, 0] := by
  have h0 : rankN [2, 1, 0] 0 = 0 := rfl
  have h1 : rankN [2, 1, 0] 1 = 1 := rankN_succ_lead lead_210_0
  show [(rankN [2, 1, 0] (leadN [2, 1, 0] 0) : Int), (rankN [2, 1, 0] (leadN [2, 1, 0] 1) : Int), (rankN [2, 1, 0] (leadN [2, 1, 0] 2) : Int)] = _
  rw [lead_210_0, lead_210_1, lead_210_2, h0, h1]; rfl

theorem pair_of {ps : List (Value × List Nat)} {A B : List Nat} (h : ps.map Prod.snd = [A, B]) : ∃ u1 u2, ps = [(u1, A), (u2, B)] := by
  match ps with
  | [] => cases h
  | [q1] => cases h
  | [q1, q2] => 
    simp only [List.map_cons, List.map_nil, List.cons.injEq, and_true] at h
    obtain ⟨rfl, rfl⟩ := h
    exact ⟨q1.1, q2.1, rfl⟩
  | q1 :: q2 :: q3 :: r => simp at h

end Go.Proofs.Ytoipbbobkllddaa

