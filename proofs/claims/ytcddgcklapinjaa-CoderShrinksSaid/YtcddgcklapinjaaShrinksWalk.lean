/- The walk of CoderShrinks. -/
import Derived.Test.YtcddgcklapinjaaCoderHelp
import Derived.Test.YtcddgcklapinjaaShrink
namespace Go.Proofs.Ytcddgcklapinjaa
open Go.RowKit

theorem bin_zero (f : Nat) : CoderP.bin f 0 = 0 := by cases f <;> rfl
theorem bin_succ (f x : Nat) : CoderP.bin (f + 1) x = if x = 0 then 0 else 1 + CoderP.bin f (x / 2) := rfl
theorem bin_half : ∀ f x, x < 2 ^ f → 0 < x → CoderP.bin f x = 1 + CoderP.bin f (x / 2)
  | 0, x, h, h0 => by simp at h; omega
  | f + 1, x, h, h0 => by
    have h1 : CoderP.bin (f + 1) x = 1 + CoderP.bin f (x / 2) := by
      rw [bin_succ, if_neg (by omega)]
    rw [h1]
    congr 1
    by_cases h2 : x / 2 = 0
    · rw [h2, bin_zero, bin_zero]
    · have h3 : x / 2 < 2 ^ f := by rw [Nat.pow_succ] at h; omega
      have h4 : CoderP.bin (f + 1) (x / 2) = 1 + CoderP.bin f (x / 2 / 2) := by
        rw [bin_succ, if_neg h2]
      rw [h4, bin_half f (x / 2) h3 (by omega)]

theorem bin_le : ∀ f x, CoderP.bin f x ≤ f
  | 0, _ => Nat.le_refl _
  | f + 1, x => by have := bin_le f (x / 2); rw [bin_succ]; split <;> omega

set_option maxRecDepth 100000 in
set_option maxHeartbeats 4000000 in
theorem coderShrinks_walk (a0 : Bool) (a1 : Int) (w : World) (w1 : (Lit.int .u16 a1).wf = true) :
    Calls Try.prog 5 #[.bool a0, .int .u16 a1] w fun e w' => e = .returned (.bool true) ∧ Below w.heap.size w w' := by
  obtain ⟨n, rfl⟩ : ∃ n : Nat, a1 = n := ⟨a1.toNat, by have := wf_u16 w1; omega⟩
  have hn : n < 65536 := by have := wf_u16 w1; omega
  have H := Lib.hid (St.start w)
  clear w1
  go_enter Try.func5, Try.ntmps5
  go_wp2_with fail
  refine (awake18_any H.out).mono ?_
  rintro e w1 ⟨rfl, h1⟩
  have H1 := Lib.hid h1
  clear h1 H
  obtain ⟨b, hb0⟩ : ∃ b, a0 = b := ⟨_, rfl⟩
  have hb := Lib.hid hb0
  clear hb0
  cases a0
  case' false =>
    go_wp2_with fail
    refine (bitsNew_any H1.out).mono ?_
    rintro e w2 ⟨b2, rfl, h2, _⟩
    have HF : Hid (flags [0] = [b]) := by show _ = _; rw [← hb.out]; rfl
  case' true =>
    go_wp2_with fail
    refine (bitsNew_any H1.out).mono ?_
    rintro e w2 ⟨b2, rfl, h2, _⟩
    have HF : Hid (flags [1] = [b]) := by show _ = _; rw [← hb.out]; rfl
  all_goals
    clear hb
    have H2 := Lib.hid h2
    clear h2 H1
    go_wp2_with fail
    obtain ⟨c, hc⟩ : ∃ c, n % 6000 = c := ⟨_, rfl⟩
    have hcn : ((n : Int) % 6000) = (c : Int) := by omega
    have hc6 : c < 6000 := by omega
    rw [hcn]
    clear hc hcn
    go_loopw [20] (fun i wr => ∃ (j : Nat) (v : Value), j ≤ c ∧ i = .int .i64 j ∧ St w wr (vecT b2 v (List.replicate j b) :: [])) (fun i _ => c - (intOf i).toNat)
    case atStart => exact ⟨0, _, by omega, rfl, H2.out⟩
    case round =>
      obtain ⟨j, v, hj, rfl, hS⟩ := hrel
      clear H2
      have HS := Lib.hid hS
      clear hS
      by_cases hlt : j < c
      · go_wp2_with fail
        refine (vecAdd_any (HS.out.newCell (.cells #[.int .i64 _] 3 (0, 0))).swap _ [_] (fun w' v' l' h' => h'.readsOne) (by simp; omega)).mono ?_
        rintro e w3 ⟨rfl, v3, h3⟩
        rw [HF.out, ← List.replicate_succ'] at h3
        have H3 := Lib.hid h3.swap.tail
        clear h3 HS
        go_wp2_with fail
        go_roundw
        case rel => exact ⟨j + 1, v3, by omega, by go_num, H3.out⟩
        case measure => simp [intOf]; omega
      · obtain rfl : j = c := by omega
        go_wp2_with fail
        have henc : Calls Try.prog 10 #[.pointer (some ⟨b2, 0, none⟩), .int .i64 0] wr _ := encode_vec (v := v) (l := List.replicate j b) HS.out (by simp) 0 (by decide) (by simp; omega)
        refine henc.mono ?_
        rintro e w4 ⟨b4, v4, rfl, h4⟩
        have H4 := Lib.hid h4
        have HSH := Lib.hid (CoderP.code_short b j hc6)
        clear h4 HS henc
        go_wp2_with fail
        go_loopw [10, 11] (fun d x wr => ∃ dg y : Nat, d = .int .i64 dg ∧ x = .int .i64 y ∧ y < 8192 ∧ dg + CoderP.bin 13 y = CoderP.bin 13 j ∧ w4 = wr) (fun _ x _ => (intOf x).toNat)
        case atStart => exact ⟨0, j, rfl, rfl, by omega, by omega, rfl⟩
        case round =>
          obtain ⟨dg, y, rfl, rfl, hy, hd, rfl⟩ := hrel
          have hbl := bin_le 13 j
          by_cases hy0 : 0 < y
          · have hhalf := bin_half 13 y (by omega) hy0
            have HD : Hid (dg + 1 + CoderP.bin 13 (y / 2) = CoderP.bin 13 j) := by show _ = _; omega
            have hdg : dg ≤ 13 := by omega
            clear hd hhalf hbl
            go_wp2_with fail
            go_roundw
            case rel => exact ⟨dg + 1, y / 2, by go_num, by go_num, by omega, HD.out, by first | rfl | trivial⟩
            case measure => simp [intOf]; omega
          · obtain rfl : y = 0 := by omega
            have hdd : dg = CoderP.bin 13 j := by rw [bin_zero] at hd; omega
            have HLE : Hid ((CoderP.code 0 (List.replicate j b)).length ≤ dg + 4) := by show _ ≤ _; have := HSH.out; omega
            have hdg : dg ≤ 13 := by omega
            clear hd hdd hbl
            go_wp2_with fail
            refine (vecLen_any (b := b4) (v := v4) (l := CoderP.code 0 (List.replicate j b)) H4.out (by simp)).mono ?_
            rintro e w6 ⟨rfl, rfl⟩
            generalize (CoderP.code 0 (List.replicate j b)).length = L at HLE ⊢
            have hle := HLE.out
            go_wp2
            go_ret
            exact ⟨ret_bool (by simp; try omega), H4.out.bel⟩
end Go.Proofs.Ytcddgcklapinjaa

