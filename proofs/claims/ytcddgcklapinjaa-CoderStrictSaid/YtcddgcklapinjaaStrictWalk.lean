/- The walk of CoderStrict. -/
import Derived.Test.YtcddgcklapinjaaCoderHelp
namespace Go.Proofs.Ytcddgcklapinjaa
open Go.RowKit

set_option maxRecDepth 100000 in
set_option maxHeartbeats 4000000 in
theorem coderStrict_walk (a0 : Option Addr) (len0 cap0 : Nat) (z0 : List Int) (a1 : Int) (a2 : Int) (a3 : Int) (w : World) (w0 : IsRow .u8 w a0 len0 cap0 z0) (w1 : (Lit.int .u8 a1).wf = true) (w2 : (Lit.int .i64 a2).wf = true) (w3 : (Lit.int .i64 a3).wf = true) :
    Calls Try.prog 4 #[.slice a0 len0 cap0, .int .u8 a1, .int .i64 a2, .int .i64 a3] w fun e w' => e = .returned (.bool true) ∧ Below w.heap.size w w' := by
  obtain ⟨p, e0, hp, R0, m0⟩ := w0.bytes
  have hplen : p.length ≤ 9223372036854775807 := by unfold maxLen at m0; omega
  have H := Lib.hid (St.start w)
  have HR0 := Lib.hid R0
  have HP := Lib.hid (And.intro hp hplen)
  obtain ⟨n, rfl⟩ : ∃ n : Nat, a1 = n := ⟨a1.toNat, by have := wf_u8 w1; omega⟩
  have hn : n < 256 := by have := wf_u8 w1; omega
  have hcount := wf_i64 w2
  clear w0 w1 w2 w3 m0 R0 hp hplen e0
  go_enter Try.func4, Try.ntmps4
  go_wp2_with fail
  refine (awake18_any H.out).mono ?_
  rintro e w1 ⟨rfl, h1⟩
  have H1 := Lib.hid h1
  clear h1 H
  go_wp2_with fail
  have hfew : Calls Try.prog 18 #[.slice a0 len0 cap0, .int .i64 ((n : Int) % 60)] w1 _ := refFew_any H1.out (.slice a0 len0 cap0) p HP.out.1 HP.out.2 (fun w' o h' => h'.arg HR0.out) (n % 60) (by omega)
  refine hfew.mono ?_
  rintro e w2 ⟨v2, rfl, h2⟩
  have hL := fewOf_len p (n % 60)
  generalize fewOf p (n % 60) = L at h2 hL
  have H2 := Lib.hid h2
  clear h2 H1 hfew HR0 HP
  go_wp2_with fail
  refine (vec18_any H2.out v2 L (by omega) (fun w' os' h' => h'.reads (E := 3) (by simp))).mono ?_
  rintro e w3 ⟨b, v, rfl, h3⟩
  have H3 := Lib.hid h3
  clear h3 H2
  have h3cases : (400 < a2 ∧ a2 ≤ 16777216) ∨ (¬ 400 < a2) ∨ (400 < a2 ∧ 16777216 < a2) := by omega
  rcases h3cases with ⟨hb1, hb2⟩ | hb1 | ⟨hb1, hb2⟩
  case' inl =>
    go_wp2_with fail
    have hmod : a2.tmod 400 = a2 % 400 := Int.tmod_eq_emod_of_nonneg (by omega)
    try rw [hmod]
    generalize a2 % 400 = n'
  case' inr.inl =>
    go_wp2_with fail
    clear hb1 hcount
    generalize a2 = n'
  case' inr.inr =>
    go_wp2_with fail
    clear hb1 hb2 hcount
    generalize a2 = n'
  all_goals
    by_cases hk : a3 < 0 ∨ 8 < a3
    · have HOP := Lib.hid (fun pv nv w => decode_option pv nv a3 hk w)
      have HOE := Lib.hid (fun pv w => encode_option pv a3 hk w)
      refine (HOP.out _ _ _).mono ?_
      rintro e w4 ⟨rfl, rfl⟩
      go_wp2_with fail
      refine (HOE.out _ _).mono ?_
      rintro e w5 ⟨rfl, rfl⟩
      by_cases hk0 : a3 < 0
      · clear hk
        go_wp2
        go_ret
        exact ⟨rfl, H3.out.bel⟩
      · have hk8 : 8 < a3 := by omega
        clear hk
        go_wp2
        go_ret
        exact ⟨rfl, H3.out.bel⟩
    · obtain ⟨k, rfl⟩ : ∃ k : Nat, a3 = k := ⟨a3.toNat, by omega⟩
      have hk8 : k ≤ 8 := by omega
      have hL32 : L.length < 4294967296 := by omega
      clear hk
      by_cases hr : n' < 0 ∨ 16777216 < n'
      · refine (decode_range _ n' k hk8 hr _).mono ?_
        rintro e w4 ⟨rfl, rfl⟩
        go_wp2_with fail
        refine (encode_vec (v := v) (l := L) H3.out (by simp) k hk8 hL32).mono ?_
        rintro e w5 ⟨o5, v5, rfl, h5⟩
        have H5 := Lib.hid h5
        clear h5 H3
        by_cases hr0 : n' < 0
        · clear hr
          go_wp2
          go_ret
          exact ⟨rfl, H5.out.bel⟩
        · have hr1 : 16777216 < n' := by omega
          clear hr
          go_wp2
          go_ret
          exact ⟨rfl, H5.out.bel⟩
      · obtain ⟨N, rfl⟩ : ∃ N : Nat, n' = N := ⟨n'.toNat, by omega⟩
        have hN : N ≤ 16777216 := by omega
        clear hr
        refine (decode_any (b := b) (bv := v) (T := L) H3.out (by simp) N k hN hk8).mono ?_
        obtain ⟨D, hD⟩ : ∃ D, CoderP.told k L N = D := ⟨_, rfl⟩
        have HDL : Hid (D.length = N) := by show _ = _; rw [← hD, CoderP.told_length]
        rw [hD]
        clear hD
        rintro e w4 (⟨heq, o4, v4, rfl, h4⟩ | ⟨_, rfl, h4⟩)
        · have H4 := Lib.hid h4
          have HEQ := Lib.hid heq
          clear h4 heq H3
          go_wp2_with fail
          refine (encode_vec (b := b) (v := v) (l := L) H4.out (by simp) k hk8 hL32).mono ?_
          rintro e w5 ⟨o5, v5, rfl, h5⟩
          have H5 := Lib.hid h5
          clear h5 H4
          go_wp2_with fail
          refine (encode_vec (b := o4) (v := v4) (l := D) H5.out (by simp) k hk8 (by have := HDL.out; omega)).mono ?_
          rintro e w6 ⟨o6, v6, rfl, h6⟩
          rw [HEQ.out] at h6
          have H6 := Lib.hid h6
          clear h6 H5
          go_wp2_with fail
          refine (vecLen_any (b := o4) (v := v4) (l := D) H6.out (by simp)).mono ?_
          rintro e w7 ⟨rfl, rfl⟩
          rw [HDL.out]
          go_wp2_with fail
          refine (same_any (b := o6) (b' := b) (v := v6) (v' := v) (l := L) (l' := L) H6.out (by simp) (by simp)).mono ?_
          rw [decide_eq_true rfl]
          rintro e w8 ⟨rfl, m8, rfl⟩
          have H8 := Lib.hid (H6.out.drewN m8)
          go_wp2
          go_ret
          exact ⟨rfl, H8.out.bel⟩
        · have H4 := Lib.hid h4
          clear h4 H3
          go_wp2_with fail
          refine (encode_vec (b := b) (v := v) (l := L) H4.out (by simp) k hk8 hL32).mono ?_
          rintro e w5 ⟨o5, v5, rfl, h5⟩
          have H5 := Lib.hid h5
          clear h5 H4
          go_wp2
          go_ret
          exact ⟨rfl, H5.out.bel⟩
end Go.Proofs.Ytcddgcklapinjaa

