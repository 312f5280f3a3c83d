/- The document's example: awake. -/
import Derived.Test.YtgpdkobefnhfiaaAdd
import Derived.Lib.SlBytesConst
namespace Go.Proofs.Ytgpdkobefnhfiaa
open Go.RowKit

theorem awake_any (w : World) : Calls Try.prog 7 #[] w fun e w' => e = .returned (.bool true) ∧ Below w.heap.size w w' := by
  have kc := fun (w : World) (C : Array Value) (n c : Nat) => Lib.run_convert_bytes_const (P := Try.prog) w 22 5 C n c Try.underlying22 Try.underlying5
  go_enter Try.func7, Try.ntmps7
  go_wp2_with fail
  refine (crcOf_any _ [49, 50, 51, 52, 53, 54, 55, 56, 57] _ (Reads.made w _ _ _ 9 (by decide) (by decide)) (by decide) (by decide)).mono ?_
  rintro e w1 ⟨rfl, hb⟩
  rw [CrcP.of_awake]
  go_wp2
  go_ret
  refine ⟨rfl, ?_⟩
  have h0 := (Below.refl w.heap.size w).alloc (Nat.le_refl _) (.cells #[.int .u8 49, .int .u8 50, .int .u8 51, .int .u8 52, .int .u8 53, .int .u8 54, .int .u8 55, .int .u8 56, .int .u8 57] 5 (9, 10))
  exact h0.trans (hb.mono (by simp))
end Go.Proofs.Ytgpdkobefnhfiaa
