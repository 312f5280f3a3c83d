/- The contract of crc.step. -/
import Derived.Test.YtgpdkobefnhfiaaChecked
import Derived.Test.YtgpdkobefnhfiaaPlain
import Derived.WalkKit
import Derived.Lib.Hide
namespace Go.Proofs.Ytgpdkobefnhfiaa
open Go.RowKit

theorem f_bits (q : Nat) (hq : q < 4294967296) :
    bits BinOp.xor IntKind.u32 ((q : Int) / 2) (bits BinOp.and IntKind.u32 3988292384 (-bits BinOp.and IntKind.u32 (q : Int) 1 % 4294967296)) = ((CrcP.f q : Nat) : Int) := by
  have e1 : bits BinOp.and IntKind.u32 (q : Int) 1 = ((q % 2 : Nat) : Int) := by
    have := u32_and_nat q 1 hq (by decide)
    rw [nat_mask1] at this
    exact this
  rw [e1]
  have e2 : ((q : Int) / 2) = ((q / 2 : Nat) : Int) := by omega
  rw [e2]
  unfold CrcP.f
  rcases Nat.mod_two_eq_zero_or_one q with h | h
  · rw [h, if_neg (by decide)]
    have e3 : bits BinOp.and IntKind.u32 3988292384 (-((0 : Nat) : Int) % 4294967296) = ((0 : Nat) : Int) := by decide +kernel
    rw [e3, u32_xor_nat _ _ (by omega) (by decide)]
  · rw [h, if_pos rfl]
    have e3 : bits BinOp.and IntKind.u32 3988292384 (-((1 : Nat) : Int) % 4294967296) = ((3988292384 : Nat) : Int) := by decide +kernel
    rw [e3, u32_xor_nat _ _ (by omega) (by decide)]

set_option maxHeartbeats 400000 in
theorem step_any (r b : Nat) (w : World) (hr : r < 4294967296) (hb : b < 256) :
    Calls Try.prog 20 #[.int .u32 r, .int .u8 b] w fun e w' => e = .returned (.int .u32 (CrcP.step r b : Nat)) ∧ w = w' := by
  go_enter Try.func20, Try.ntmps20
  go_wp2
  go_loop [0, 9] (fun x i => ∃ k : Nat, k ≤ 8 ∧ i = .int .i64 k ∧ x = .int .u32 ((CrcP.fN k (r ^^^ b) : Nat) : Int)) (fun _ i => 8 - (intOf i).toNat)
  case atStart => exact ⟨0, by omega, rfl, by rw [u32_xor_nat r b hr (by omega)]; rfl⟩
  case round =>
    obtain ⟨k, hk, rfl, rfl⟩ := hrel
    have hx : CrcP.fN k (r ^^^ b) < 4294967296 := CrcP.fN_lt (Nat.xor_lt_two_pow (n := 32) hr (by omega))
    generalize hq : CrcP.fN k (r ^^^ b) = q at hx ⊢
    have HQ := Lib.hid hq
    clear hq
    go_wp2
    · go_round
      case rel => exact ⟨k + 1, by omega, by go_num, by rw [f_bits q hx, ← HQ.out]; rfl⟩
      case measure => simp [intOf]; omega
    · have : k = 8 := by omega
      subst this
      go_ret
      exact ⟨by rw [← HQ.out]; rfl, rfl⟩
end Go.Proofs.Ytgpdkobefnhfiaa
