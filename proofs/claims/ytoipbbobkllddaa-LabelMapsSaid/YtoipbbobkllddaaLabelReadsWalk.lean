/- The walk of LabelReads. -/
import Derived.Test.YtoipbbobkllddaaLabelHelp
import Derived.Test.YtoipbbobkllddaaRefLabel
import Derived.Test.YtoipbbobkllddaaSame
import Derived.Deep.Cut
namespace Go.Proofs.Ytoipbbobkllddaa
open Go.RowKit

theorem St.dropG {w0 w : World} {os : List Thing} : ∀ (OS : List Thing), St w0 w (OS ++ os) → St w0 w os
  | [], h => h
  | _ :: OS, h => St.dropG OS h.tail

set_option maxRecDepth 100000 in
set_option maxHeartbeats 4000000 in
theorem labelReads_walk (a0 : Option Addr) (len0 cap0 : Nat) (z0 : List Int) (a1 : Int) (a2 : Int) (a3 : Bool) (w : World) (w0 : IsRow .u8 w a0 len0 cap0 z0) (w1 : (Lit.int .u8 a1).wf = true) (w2 : (Lit.int .i64 a2).wf = true) :
    Calls Try.prog 5 #[.slice a0 len0 cap0, .int .u8 a1, .int .i64 a2, .bool a3] w fun e w' => e = .returned (.bool true) ∧ Below w.heap.size w w' := by
  obtain ⟨p, e0, hp, R0, m0⟩ := w0.bytes
  have hplen : p.length ≤ 9223372036854775807 := by unfold maxLen at m0; omega
  have H := Lib.hid (St.start w)
  have HR0 := Lib.hid R0
  have HP := Lib.hid (And.intro hp hplen)
  obtain ⟨n, rfl⟩ : ∃ n : Nat, a1 = n := ⟨a1.toNat, by have := wf_u8 w1; omega⟩
  have hn : n < 256 := by have := wf_u8 w1; omega
  have hb2 := wf_i64 w2
  clear w0 w1 w2 m0 R0 hp hplen e0
  go_enter Try.func5, Try.ntmps5
  go_wp2_with fail
  refine (awake20_any H.out).mono ?_
  rintro e w1 ⟨rfl, h1⟩
  have H1 := Lib.hid h1
  clear h1 H
  have hfew : Calls Try.prog 24 #[.slice a0 len0 cap0, .int .i64 ((n : Int) % 120)] w1 _ := refFew_any H1.out (.slice a0 len0 cap0) p HP.out.1 HP.out.2 (fun w' o h' => h'.arg HR0.out) (n % 120) (by omega)
  have HFEW := Lib.hid hfew
  clear hfew
  go_wp2_with fail
  refine HFEW.out.mono ?_
  rintro e w2 ⟨v2, rfl, h2⟩
  have hL : (fewOf p (n % 120)).length ≤ n % 120 := by unfold fewOf; exact List.length_take_le ..
  obtain ⟨F, hF⟩ : ∃ F, fewOf p (n % 120) = F := ⟨_, rfl⟩
  rw [hF] at h2 hL
  have hFl : F.length ≤ 1000 := by omega
  have H2 := Lib.hid h2
  clear h2 HFEW hF hL
  go_upto_if 24 with fail
  go_cut [2, 9] from 17 (fun ev lv wx => ∃ (E : Int) (l : List Bool) (a : Option Addr) (c : Nat), ev = .int .i64 E ∧ (-9223372036854775808 ≤ E ∧ E ≤ 9223372036854775807) ∧ lv = .slice a l.length c ∧ l.length ≤ 1000 ∧
    ∃ OS, St w wx (rowT 3 (.slice a l.length c) (intsOf (bitsOf l)) :: OS))
  case first =>
    cases a3
    · obtain ⟨a, c, rfl, _, _⟩ := ownsRow_slice H2.out.row
      rw [intsOf_len, bitsOf_len] at H2 ⊢
      go_wp2_with fail
      go_meet
      exact ⟨a2, F, a, c, rfl, ⟨by omega, by omega⟩, rfl, hFl, _, H2.out⟩
    · obtain ⟨m, hm12, hwm⟩ : ∃ m : Nat, m < 12 ∧ wrap64 ((IntKind.u64.wrap a2).tmod 12) = (m : Int) := by
        refine ⟨((a2 % 18446744073709551616) % 12).toNat, by omega, ?_⟩
        rw [IntKind.wrap_u64, Int.tmod_eq_emod_of_nonneg (by omega)]
        unfold wrap64
        omega
      have HWM := Lib.hid hwm
      have HRW := Lib.hid (refWidth20_any m (by omega) w2)
      have hw16 := widthN_16 m (by omega)
      obtain ⟨W, hW⟩ : ∃ W, widthN m = W := ⟨_, rfl⟩
      rw [hW] at HRW hw16
      have hei : ((m * (W + 1) : Nat) : Int) = (m : Int) * ((W : Int) + 1) := by simp
      have hbZ : m * (W + 1) ≤ 12 * 17 := Nat.mul_le_mul (by omega) (by omega)
      have hb3 : (m : Int) * ((W : Int) + 1) ≤ 204 := by rw [← hei]; exact Int.ofNat_le.2 hbZ
      have hb4 : 0 ≤ (m : Int) * ((W : Int) + 1) := by rw [← hei]; exact Int.natCast_nonneg _
      have hfw := refFew_any H2.out (.slice a0 len0 cap0) p HP.out.1 HP.out.2 (fun w' o h' => h'.arg HR0.out) (m * (W + 1)) (by omega)
      rw [hei] at hfw
      have hL2 : (fewOf p (m * (W + 1))).length ≤ m * (W + 1) := by unfold fewOf; exact List.length_take_le ..
      obtain ⟨F2, hF2⟩ : ∃ F2, fewOf p (m * (W + 1)) = F2 := ⟨_, rfl⟩
      rw [hF2] at hfw hL2
      have HFW := Lib.hid hfw
      have hF2l : F2.length ≤ 1000 := by omega
      clear hei hbZ hW hwm hfw hF2 hL2
      go_wp2_with fail
      rw [HWM.out]
      refine HRW.out.mono ?_
      rintro e w3 ⟨rfl, rfl⟩
      go_wp2_with fail
      refine HFW.out.mono ?_
      rintro e w3 ⟨v3, rfl, h3⟩
      obtain ⟨a, c, rfl, _, _⟩ := ownsRow_slice h3.row
      rw [intsOf_len, bitsOf_len] at h3 ⊢
      have H3 := Lib.hid h3
      clear h3
      go_wp2_with fail
      go_meet
      exact ⟨(m : Int), F2, a, c, rfl, ⟨by omega, by omega⟩, rfl, hF2l, _, H3.out⟩
  case rest =>
    obtain ⟨E, l, a, c, rfl, hE, rfl, hl, OS, hS⟩ := hcut
    have HS := Lib.hid hS
    clear hS H2 hFl
    go_wp2_with fail
    refine (bitsNew_any HS.out).mono ?_
    rintro e w3 ⟨b, rfl, h3, _⟩
    have hadd := vecAdd_any (b := b) (v := .slice none 0 0) (l := []) h3 (.slice a l.length c) (bitsOf l) (fun w' v' l' h' => h'.reads (E := 3) (by simp)) (by rw [bitsOf_len]; simp; omega)
    rw [flags_bitsOf, List.nil_append] at hadd
    have HADD := Lib.hid hadd
    clear hadd h3 HS
    go_wp2_with fail
    refine HADD.out.mono ?_
    rintro e w4 ⟨rfl, v4, h4⟩
    have HDEC := Lib.hid (labDec_any h4 (b := b) (v := v4) (l := l) (by simp) E (by omega) (by omega) (by omega))
    have H4 := Lib.hid h4
    clear h4 HADD
    go_wp2_with fail
    refine HDEC.out.mono ?_
    rintro e w5 hd
    rcases hd with ⟨hno, rfl, hS5⟩ | ⟨m, rfl, hm, hlen, OS5, hperm⟩
    · have H5 := Lib.hid hS5
      have HNO := Lib.hid hno
      clear hno hS5 HDEC H4
      by_cases hneg : E < 0
      · go_wp2_with fail
        go_ret
        exact ⟨rfl, H5.out.bel⟩
      · by_cases hbig : 65536 < E
        · go_wp2_with fail
          go_ret
          exact ⟨rfl, H5.out.bel⟩
        · obtain ⟨m, rfl⟩ : ∃ m : Nat, E = m := ⟨E.toNat, by omega⟩
          have HW := Lib.hid (refWidth20_any m (by omega) w5)
          have hw16 := widthN_16 m (by omega)
          obtain ⟨W, hW⟩ : ∃ W, widthN m = W := ⟨_, rfl⟩
          have hne : l.length ≠ m * (W + 1) := fun h => HNO.out ⟨by omega, by omega, by rw [Int.toNat_natCast, hW]; exact h⟩
          rw [hW] at HW hw16
          have hbZ : m * (W + 1) ≤ 65536 * 17 := Nat.mul_le_mul (by omega) (by omega)
          have hei : ((m * (W + 1) : Nat) : Int) = (m : Int) * ((W : Int) + 1) := by simp
          have hb3 : (m : Int) * ((W : Int) + 1) ≤ 1114112 := by rw [← hei]; exact Int.ofNat_le.2 hbZ
          have hb4 : 0 ≤ (m : Int) * ((W : Int) + 1) := by rw [← hei]; exact Int.natCast_nonneg _
          have hdn : ((l.length : Int) != (m : Int) * ((W : Int) + 1)) = true := bne_iff_ne.2 (fun h => hne (by rw [← hei] at h; exact Int.ofNat.inj h))
          clear hei hne hbZ hW
          go_wp2_with fail
          refine HW.out.mono ?_
          rintro e w6 ⟨rfl, rfl⟩
          go_wp2_with fail
          go_ret
          exact ⟨rfl, H5.out.bel⟩
    · have hw16 := widthN_16 m hm
      have HB := Lib.hid (labelB_all l m hlen)
      have HMI := Lib.hid (decL_mates_iff l (widthN m) m)
      have HMT := Lib.hid (decL_mates l (widthN m) m)
      have HHF := Lib.hid (decL_half l (widthN m) m)
      have HDL := Lib.hid (decL_len l (widthN m) m)
      have HRW := Lib.hid (fun W' => refWidth20_any m hm W')
      have HLEN := Lib.hid hlen
      obtain ⟨W, hW⟩ : ∃ W, widthN m = W := ⟨_, rfl⟩
      rw [hW] at hw16 hlen HB HMI HMT HHF HDL HRW hperm
      have HWW := Lib.hid hW
      have hei : ((m * (W + 1) : Nat) : Int) = (m : Int) * ((W : Int) + 1) := by simp
      have hbZ : m * (W + 1) ≤ 65536 * 17 := Nat.mul_le_mul hm (by omega)
      have hb3 : (m : Int) * ((W : Int) + 1) ≤ 1114112 := by rw [← hei]; exact Int.ofNat_le.2 hbZ
      have hb4 : 0 ≤ (m : Int) * ((W : Int) + 1) := by rw [← hei]; exact Int.natCast_nonneg _
      have hdn : ((l.length : Int) != (m : Int) * ((W : Int) + 1)) = false := by
        have : (l.length : Int) = (m : Int) * ((W : Int) + 1) := by rw [hlen, hei]
        rw [this]; simp
      clear hlen hei hbZ hW HDEC H4
      have hm500 : m ≤ 1000 := by
        have h1 := HLEN.out
        have h2 : m * 1 ≤ m * (widthN m + 1) := Nat.mul_le_mul_left _ (by omega)
        omega
      rcases hperm with ⟨hip, q, vq, rfl, hS5⟩ | ⟨hip, rfl, hS5⟩
      · have H5 := Lib.hid hS5
        have HIP := Lib.hid hip
        clear hip hS5
        have hrd := refDec_any H5.out (.slice a l.length c) l m hm HLEN.out (by omega) (by omega) (fun w' os' h' => h'.reads (E := 3) (by simp))
        rw [HWW.out] at hrd
        have HRD := Lib.hid hrd
        clear hrd
        go_wp2_with fail
        refine (HRW.out w5).mono ?_
        rintro e w6 ⟨rfl, rfl⟩
        go_wp2_with fail
        refine HRD.out.mono ?_
        rintro e w6 ⟨v6, r, rfl, hr, h6⟩
        obtain rfl : r = true := hr.2 (HMI.out.2 HIP.out)
        have H6 := Lib.hid h6
        have HEN := Lib.hid (labEnc_any h6 q vq (decL l W m) (by simp) (by simp) HIP.out (by rw [HDL.out]; omega))
        clear hr h6 HRD H5
        go_wp2_with fail
        refine HEN.out.mono ?_
        rintro e w7 (⟨_, _, b7, v7, rfl, h7⟩ | ⟨hno, _⟩)
        · rw [HHF.out.2, ← HWW.out, HWW.out, HB.out] at h7
          have H7 := Lib.hid h7
          have HLS := Lib.hid (permList_any h7 q vq (decL l W m) (by simp) (by simp) (by rw [HDL.out]; omega))
          clear h7 HEN H6
          go_wp2_with fail
          refine HLS.out.mono ?_
          rintro e w8 ⟨v8, rfl, h8⟩
          have HEQ := Lib.hid (equalInts_any v8 v6 (decL l W m) (decL l W m) w8 (h8.reads (List.mem_cons_self ..)) (h8.reads (E := 3) (xs := intsOf (decL l W m)) (by simp)))
          have H8 := Lib.hid h8
          clear h8 HLS H7
          go_wp2_with fail
          refine HEQ.out.mono ?_
          rintro e w9 ⟨he9, m9, rfl⟩
          have he9' : e = .returned (.bool true) := by rw [he9]; simp
          clear he9
          subst he9'
          have H9 := Lib.hid (H8.out.drewN m9)
          have HSM := Lib.hid (same_any (b := b7) (b' := b) (v := v7) (v' := v4) (l := l) (l' := l) H9.out (by simp) (by simp))
          clear HEQ H8
          generalize w8.drewN m9 = W9 at H9 HSM ⊢
          go_wp2_with fail
          refine HSM.out.mono ?_
          rintro e w10 ⟨he10, m10, rfl⟩
          have he10' : e = .returned (.bool true) := by rw [he10]; simp
          clear he10
          subst he10'
          have H10 := Lib.hid (H9.out.drewN m10)
          clear HSM H9
          go_wp2_with fail
          go_ret
          exact ⟨rfl, H10.out.bel⟩
        · exact absurd ⟨HHF.out.1, by rw [HHF.out.2]; exact HMT.out⟩ hno
      · have H5 := Lib.hid hS5
        have HIP := Lib.hid hip
        clear hip hS5
        have hrd := refDec_any H5.out (.slice a l.length c) l m hm HLEN.out (by omega) (by omega) (fun w' os' h' => h'.reads (E := 3) (by simp))
        rw [HWW.out] at hrd
        have HRD := Lib.hid hrd
        clear hrd
        go_wp2_with fail
        refine (HRW.out w5).mono ?_
        rintro e w6 ⟨rfl, rfl⟩
        go_wp2_with fail
        refine HRD.out.mono ?_
        rintro e w6 ⟨v6, r, rfl, hr, h6⟩
        obtain rfl : r = false := by cases r; rfl; exact absurd (HMI.out.1 (hr.1 rfl)) HIP.out
        have H6 := Lib.hid h6
        clear hr h6 HRD H5
        go_wp2_with fail
        go_ret
        exact ⟨rfl, H6.out.bel⟩
end Go.Proofs.Ytoipbbobkllddaa

