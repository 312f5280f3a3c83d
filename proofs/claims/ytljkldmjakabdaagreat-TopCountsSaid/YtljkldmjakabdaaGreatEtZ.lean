/- TopCounts by reckoning: whatever the two numbers, the call returns true, and nothing that was there has turned. -/
import Derived.Test.YtljkldmjakabdaaGreatEt1
import Derived.Test.YtljkldmjakabdaaGreatEt2
import Derived.ProofKit
namespace Go.Proofs.YtljkldmjakabdaaGreat.Ev
open Go Go.RowKit

theorem u8_nat {n : Int} (h : (Lit.int .u8 n).wf = true) : ∃ k : Nat, k < 256 ∧ n = .ofNat k := by
  have := bounds_u8 h
  exact ⟨n.toNat, by omega, by show n = (n.toNat : Int); omega⟩

theorem counts_any (a0 : Int) (a1 : Int) (w : World) (w0 : (Lit.int .u8 a0).wf = true) (w1 : (Lit.int .u8 a1).wf = true) :
    Calls Tryz.prog 3 #[.int .u8 a0, .int .u8 a1] w fun e w' => e = .returned (.bool true) ∧ Below w.heap.size w w' := by
  obtain ⟨e, he, rfl⟩ := u8_nat w0
  obtain ⟨f, hf, rfl⟩ := u8_nat w1
  rcases Nat.mod_two_eq_zero_or_one e with h | h
  · exact run_top he hf ok1 end1 (show 1 = 1 + e % 2 by rw [h]) w
  · exact run_top he hf ok2 end2 (show 2 = 1 + e % 2 by rw [h]) w

end Go.Proofs.YtljkldmjakabdaaGreat.Ev

