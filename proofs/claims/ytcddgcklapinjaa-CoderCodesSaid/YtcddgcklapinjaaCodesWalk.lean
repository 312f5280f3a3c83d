/- The walk of CoderCodes. -/
import Derived.Test.YtcddgcklapinjaaCoderHelp
import Derived.Test.YtcddgcklapinjaaShrink
import Derived.Test.YtcddgcklapinjaaRef18
import Derived.Test.YtcddgcklapinjaaCodeLe
namespace Go.Proofs.Ytcddgcklapinjaa
open Go.RowKit

set_option maxRecDepth 100000 in
set_option maxHeartbeats 4000000 in
theorem coderCodes_walk (a0 : Option Addr) (len0 cap0 : Nat) (z0 : List Int) (a1 : Int) (a2 : Int) (a3 : Int) (w : World) (w0 : IsRow .u8 w a0 len0 cap0 z0) (w1 : (Lit.int .u8 a1).wf = true) (w2 : (Lit.int .u8 a2).wf = true) (w3 : (Lit.int .u8 a3).wf = true) :
    Calls Try.prog 3 #[.slice a0 len0 cap0, .int .u8 a1, .int .u8 a2, .int .u8 a3] w fun e w' => e = .returned (.bool true) ∧ Below w.heap.size w w' := by
  obtain ⟨p, e0, hp, R0, m0⟩ := w0.bytes
  have hplen : p.length ≤ 9223372036854775807 := by unfold maxLen at m0; omega
  have H := Lib.hid (St.start w)
  have HR0 := Lib.hid R0
  have HP := Lib.hid (And.intro hp hplen)
  obtain ⟨n, rfl⟩ : ∃ n : Nat, a1 = n := ⟨a1.toNat, by have := wf_u8 w1; omega⟩
  obtain ⟨tm, rfl⟩ : ∃ k : Nat, a2 = k := ⟨a2.toNat, by have := wf_u8 w2; omega⟩
  obtain ⟨k0, rfl⟩ : ∃ j : Nat, a3 = j := ⟨a3.toNat, by have := wf_u8 w3; omega⟩
  have hn : n < 256 := by have := wf_u8 w1; omega
  have ht : tm < 256 := by have := wf_u8 w2; omega
  have hk0 : k0 < 256 := by have := wf_u8 w3; omega
  clear w0 w1 w2 w3 m0 R0 hp hplen e0
  go_enter Try.func3, Try.ntmps3
  go_wp2_with fail
  refine (awake18_any H.out).mono ?_
  rintro e w1 ⟨rfl, h1⟩
  have H1 := Lib.hid h1
  clear h1 H
  go_wp2_with fail
  refine (some18_any H1.out _ p HP.out.1 HP.out.2 (fun w' os' h' => h'.arg HR0.out) n tm hn ht).mono ?_
  rintro e w2 ⟨v2, F, rfl, hF, hF2, h2⟩
  clear hF
  obtain ⟨aF, cF, rfl, hcF, hcmF⟩ := ownsRow_slice h2.row
  rw [intsOf_len, bitsOf_len] at h2 hcF ⊢
  have H2 := Lib.hid h2
  clear h2 H1 HP HR0 hcmF
  obtain ⟨k, hk⟩ : ∃ k, k0 % 9 = k := ⟨_, rfl⟩
  have hk8 : k ≤ 8 := by omega
  have hkk : ((k0 : Int) % 9) = (k : Int) := by omega
  have HK := Lib.hid hkk
  have HTL : Hid ((CoderP.code k F).length < 100000) := by show _ < _; have := CoderP.code_le k F; omega
  clear hk hkk
  go_wp2_with fail
  refine (vec18_any H2.out _ F (by omega) (fun w' os' h' => h'.reads (E := 3) (by simp))).mono ?_
  rintro e w3 ⟨b3, v3, rfl, h3⟩
  have H3 := Lib.hid h3
  clear h3 H2
  go_wp2_with fail
  rw [HK.out]
  refine (encode_vec (v := v3) (l := F) H3.out (by simp) k hk8 (by omega)).mono ?_
  rintro e w4 ⟨b4, v4, rfl, h4⟩
  have H4 := Lib.hid h4
  clear h4 H3
  go_wp2_with fail
  refine (vecText_any (b := b4) (v := v4) (l := CoderP.code k F) H4.out (by simp) (by have := HTL.out; omega)).mono ?_
  rintro e w5 ⟨rfl, h5⟩
  have H5 := Lib.hid h5
  clear h5 H4
  go_wp2_with fail
  refine (ref18_any H5.out _ F k hk8 (by omega) (fun w' os' h' => h'.reads (E := 3) (by simp))).mono ?_
  rintro e w6 ⟨v6, rfl, h6⟩
  have H6 := Lib.hid h6
  clear h6 H5
  go_wp2_with fail
  refine (refText_any _ (CoderP.code k F) _ H6.out.reads1).mono ?_
  rintro e w7 ⟨rfl, rfl⟩
  generalize strOf (textOf (CoderP.code k F)) = TX
  go_wp2_with fail
  refine (decode_any (b := b4) (bv := v4) (T := CoderP.code k F) H6.out (by simp) F.length k (by omega) hk8).mono ?_
  rw [CoderP.told_code]
  rintro e w8 (⟨_, b8, v8, rfl, h8⟩ | ⟨hne, _⟩)
  case inr => exact absurd rfl hne
  have H8 := Lib.hid h8
  clear h8 H6
  go_wp2_with fail
  refine (vec18_any H8.out _ F (by omega) (fun w' os' h' => h'.reads (E := 3) (by simp))).mono ?_
  rintro e w9 ⟨b9, v9, rfl, h9⟩
  have H9 := Lib.hid h9
  clear h9 H8
  go_wp2_with fail
  refine (same_any (b := b8) (b' := b9) (v := v8) (v' := v9) (l := F) (l' := F) H9.out (by simp) (by simp)).mono ?_
  rw [decide_eq_true rfl]
  rintro e w10 ⟨rfl, m10, rfl⟩
  have H10 := Lib.hid (H9.out.drewN m10)
  clear H9
  generalize w9.drewN m10 = w10 at H10 ⊢
  go_wp2_with fail
  have H11 := Lib.hid (H10.out.newCell (.cells #[.int .i64 ((F.length : Int) - 1), .int .i64 ((F.length : Int) + 1)] 3 (0, 0)))
  obtain ⟨c, hc⟩ : ∃ c, w10.heap.size = c := ⟨_, rfl⟩
  rw [hc] at H11 ⊢
  clear hc H10
  obtain ⟨OS, hOS⟩ : ∃ OS, [vecT b9 v9 F, vecT b8 v8 F, rowT 3 v6 (intsOf (bitsOf (CoderP.code k F))), vecT b4 v4 (CoderP.code k F), vecT b3 v3 F, rowT 3 (.slice aF F.length cF) (intsOf (bitsOf F))] = OS := ⟨_, rfl⟩
  have HOS : Hid (vecT b4 v4 (CoderP.code k F) ∈ OS) := by show _ ∈ _; rw [← hOS]; simp
  rw [hOS] at H11
  clear hOS
  go_loopw [73] (fun i wr => ∃ j : Nat, j ≤ 2 ∧ i = .int .i64 j ∧ St w wr (cellT c (.cells #[.int .i64 ((F.length : Int) - 1), .int .i64 ((F.length : Int) + 1)] 3 (0, 0)) :: OS)) (fun i _ => 2 - (intOf i).toNat)
  case atStart => exact ⟨0, by omega, rfl, H11.out⟩
  case round =>
    obtain ⟨j, hj, rfl, hS⟩ := hrel
    have HS := Lib.hid hS
    clear hS H11
    by_cases hlt : j < 2
    · obtain ⟨mm, hmm⟩ : ∃ mm : Int, wr.cell? ⟨c, j, none⟩ = some (.int .i64 mm) := by
        have : j = 0 ∨ j = 1 := by omega
        rcases this with rfl | rfl
        · exact ⟨_, HS.out.cellAt 0⟩
        · exact ⟨_, HS.out.cellAt 1⟩
      have hmb : -1 ≤ mm ∧ mm ≤ 1189 := by
        have : j = 0 ∨ j = 1 := by omega
        rcases this with rfl | rfl
        · have h0 : wr.cell? ⟨c, 0, none⟩ = some (.int .i64 ((F.length : Int) - 1)) := HS.out.cellAt 0
          rw [h0] at hmm; simp at hmm; omega
        · have h0 : wr.cell? ⟨c, 1, none⟩ = some (.int .i64 ((F.length : Int) + 1)) := HS.out.cellAt 1
          rw [h0] at hmm; simp at hmm; omega
      by_cases hneg : mm < 0
      · go_wp2_with fail
        refine (decode_range _ mm k hk8 (.inl hneg) _).mono ?_
        rintro e w12 ⟨rfl, rfl⟩
        go_wp2_with fail
        go_roundw
        case rel => exact ⟨j + 1, by omega, by go_num, HS.out⟩
        case measure => simp [intOf]; omega
      · obtain ⟨M, rfl⟩ : ∃ M : Nat, mm = M := ⟨mm.toNat, by omega⟩
        have hM : M ≤ 1189 := by omega
        clear hneg hmb
        go_wp2_with fail
        refine (decode_any (b := b4) (bv := v4) (T := CoderP.code k F) HS.out (by simp [HOS.out]) M k (by omega) hk8).mono ?_
        obtain ⟨D, hD⟩ : ∃ D, CoderP.told k (CoderP.code k F) M = D := ⟨_, rfl⟩
        have HDL : Hid (D.length = M) := by show _ = _; rw [← hD, CoderP.told_length]
        rw [hD]
        clear hD
        rintro e w12 (⟨heq, b12, v12, rfl, h12⟩ | ⟨_, rfl, h12⟩)
        · have H12 := Lib.hid h12
          have HEQ := Lib.hid heq
          clear h12 heq
          go_wp2_with fail
          refine (encode_vec (b := b12) (v := v12) (l := D) H12.out (by simp) k hk8 (by have := HDL.out; omega)).mono ?_
          rintro e w13 ⟨b13, v13, rfl, h13⟩
          rw [HEQ.out] at h13
          have H13 := Lib.hid h13
          clear h13 H12 HS
          go_wp2_with fail
          refine (vecLen_any (b := b12) (v := v12) (l := D) H13.out (by simp)).mono ?_
          rintro e w14 ⟨rfl, rfl⟩
          rw [HDL.out]
          go_wp2_with fail
          refine (same_any (b := b13) (b' := b4) (v := v13) (v' := v4) (l := CoderP.code k F) (l' := CoderP.code k F) H13.out (by simp) (by simp [HOS.out])).mono ?_
          rw [decide_eq_true rfl]
          rintro e w15 ⟨rfl, m15, rfl⟩
          have H15 := Lib.hid (H13.out.drewN m15).tail.tail
          clear H13
          go_wp2_with fail
          go_roundw
          case rel => exact ⟨j + 1, by omega, by go_num, H15.out⟩
          case measure => simp [intOf]; omega
        · have H12 := Lib.hid h12
          clear h12 HS
          go_wp2_with fail
          go_roundw
          case rel => exact ⟨j + 1, by omega, by go_num, H12.out⟩
          case measure => simp [intOf]; omega
    · obtain rfl : j = 2 := by omega
      go_wp2
      go_ret
      exact ⟨rfl, HS.out.bel⟩
end Go.Proofs.Ytcddgcklapinjaa

