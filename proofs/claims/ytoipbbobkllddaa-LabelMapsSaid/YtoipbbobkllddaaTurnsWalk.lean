/- The walk of LabelTurns. -/
import Derived.Test.YtoipbbobkllddaaMixed
import Derived.Test.YtoipbbobkllddaaLabelReadsWalk
namespace Go.Proofs.Ytoipbbobkllddaa
open Go.RowKit

theorem encM {w0 w : World} {os : List Thing} (h : St w0 w os) (p : Nat) (v : Value) (xs : List Int) (n : Nat) (hm1 : cellT p (permObj v) ∈ os) (hm2 : rowT 3 v (intsOf xs) ∈ os) (hM : Mates xs) (hl : xs.length = 2 * n) (hn : n ≤ 1000) :
    Calls Try.prog 12 #[.pointer (some ⟨p, 0, none⟩)] w fun e w' => ∃ b vv, e = .returned (.tuple #[.pointer (some ⟨b, 0, none⟩), .int .i64 0]) ∧ St w0 w' (vecT b vv (labelB xs n n) :: os) := by
  have hmt := (mates_iff xs hM.1 hM.2.1).1 hM
  refine (labEnc_any h p v xs hm1 hm2 hM.1 (by omega)).mono ?_
  rintro e w' (⟨_, _, b, vv, rfl, h2⟩ | ⟨hno, _⟩)
  · rw [show xs.length / 2 = n by omega] at h2
    exact ⟨b, vv, rfl, h2⟩
  · exact absurd ⟨hM.2.1, hmt⟩ hno

theorem decM {w0 w : World} {os : List Thing} (h : St w0 w os) {b : Nat} {v : Value} {xs : List Int} {n : Nat} (hm : vecT b v (labelB xs n n) ∈ os) (hM : Mates xs) (hl : xs.length = 2 * n) (hn : n ≤ 1000) :
    Calls Try.prog 13 #[.pointer (some ⟨b, 0, none⟩), .int .i64 n] w fun e w' => ∃ q vq OS, e = .returned (.tuple #[.pointer (some ⟨q, 0, none⟩), .int .i64 0]) ∧ St w0 w' (cellT q (permObj vq) :: rowT 3 vq (intsOf xs) :: (OS ++ os)) := by
  have hw := widthN_16 n (by omega)
  have hlen := labelB_length xs n n
  have hle : n * (widthN n + 1) ≤ 1000 * 17 := Nat.mul_le_mul hn (by omega)
  refine (labDec_any h hm (n : Int) (by omega) (by omega) (by omega)).mono ?_
  rintro e w' (⟨hno, _⟩ | ⟨m, hm1, hm2, hm3, OS, hp⟩)
  · exact absurd ⟨by omega, by omega, by rw [Int.toNat_natCast]; exact hlen⟩ hno
  · obtain rfl : n = m := by omega
    rw [decL_labelB hM hl (by omega)] at hp
    rcases hp with ⟨_, q, vq, rfl, h2⟩ | ⟨hno, _⟩
    · exact ⟨q, vq, OS, rfl, h2⟩
    · exact absurd hM.1 hno

set_option maxRecDepth 100000 in
set_option maxHeartbeats 4000000 in
theorem labelTurns_walk (a0 : Int) (a1 : Option Addr) (len1 cap1 : Nat) (z1 : List Int) (a2 : Option Addr) (len2 cap2 : Nat) (z2 : List Bool) (w : World) (w0 : (Lit.int .u8 a0).wf = true) (w1 : IsRow .u8 w a1 len1 cap1 z1) (w2 : IsFlags w a2 len2 cap2 z2) :
    Calls Try.prog 6 #[.int .u8 a0, .slice a1 len1 cap1, .slice a2 len2 cap2] w fun e w' => e = .returned (.bool true) ∧ Below w.heap.size w w' := by
  obtain ⟨p8, e0, hp8, R0, m0⟩ := w1.bytes
  obtain ⟨R1, hfl, m1⟩ := w2.reads
  have HR0 := Lib.hid R0
  have HR1 := Lib.hid R1
  have HP8 := Lib.hid hp8
  have HFL := Lib.hid hfl
  obtain ⟨m, rfl⟩ : ∃ n : Nat, a0 = n := ⟨a0.toNat, by have := wf_u8 w0; omega⟩
  have hm : m < 256 := by have := wf_u8 w0; omega
  clear w0 w1 w2 m0 m1 R0 R1 hp8 e0 hfl
  obtain ⟨n, hn⟩ : ∃ n, m % 30 = n := ⟨_, rfl⟩
  have hn30 : n < 30 := by omega
  have htm : (m : Int).tmod 30 = (n : Int) := by rw [Int.tmod_eq_emod_of_nonneg (by omega)]; omega
  have HAW := Lib.hid (awake20_any (St.start w))
  clear hm hn
  go_enter Try.func6, Try.ntmps6
  go_wp2_with fail
  refine HAW.out.mono ?_
  rintro e w2 ⟨rfl, h2⟩
  have HAN := Lib.hid (refAny_any h2 n (by omega) (.slice none 0 0) [] (fun W os' hW => Reads.nil W) (by simp) 0 (by omega))
  have H2 := Lib.hid h2
  clear h2 HAW
  go_wp2_with fail
  refine HAN.out.mono ?_
  rintro e w3 ⟨v3, ss, rfl, hip, hsl, h3⟩
  have HMX := Lib.hid (refMixed_any h3 n (by omega) v3 ss hip hsl (fun W os' hW => hW.reads (E := 3) (by simp)) 0 (.slice a1 len1 cap1) p8 (fun W os' hW => hW.arg HR0.out) HP8.out a2 len2 cap2 (z2.take len2) (fun i => (z2.take len2).getD i false) (fun _ => rfl) HFL.out (fun W os' hW => hW.arg HR1.out))
  clear h3 HAN H2 hip hsl
  go_wp2_with fail
  refine HMX.out.mono ?_
  rintro e w4 ⟨xa, xl, xc, x1, x2, v4, es, rfl, hie, hel, h4⟩
  have hM := mixL_mates hie (fun i => (z2.take len2).getD i false)
  have hML := mixL_len es (fun i => (z2.take len2).getD i false)
  obtain ⟨ls, hls⟩ : ∃ ls, mixL es (fun i => (z2.take len2).getD i false) = ls := ⟨_, rfl⟩
  rw [hls] at h4 hM hML
  rw [hel] at hML
  obtain ⟨N, hN⟩ : ∃ N, 2 * n = N := ⟨_, rfl⟩
  rw [hN] at hML
  have hq : (N : Int).tdiv 2 = (n : Int) := by rw [Int.tdiv_eq_ediv_of_nonneg (by omega)]; omega
  obtain ⟨al, cl, rfl, j1, j2⟩ := ownsRow_slice h4.row
  rw [intsOf_len, hML] at h4 ⊢
  have HM := Lib.hid hM
  have HML := Lib.hid hML
  have HN := Lib.hid hN
  have hN1 : N ≤ 100 := by omega
  have H4 := Lib.hid (h4.tail.alloc (.cells #[.slice xa xl xc, .int .i64 x1, .int .i64 x2] 40))
  have H5 := Lib.hid (h4.alloc (.cells #[.slice xa xl xc, .int .i64 x1, .int .i64 x2] 40))
  clear h4 HMX hM hML hls hie hel hN j1 j2 H4
  have hOF := permOf_any H5.out (.slice al N cl) ls (by rw [HML.out]; omega) (fun W os' hW => hW.reads (E := 3) (by simp))
  have HOF := Lib.hid hOF
  clear hOF
  go_wp2_with fail
  refine HOF.out.mono ?_
  rintro e w5 (⟨_, p, vp, rfl, h5⟩ | ⟨hno, _⟩)
  rotate_left
  · exact absurd HM.out.1 hno
  have HE1 := Lib.hid (encM h5 p vp ls n (List.mem_cons_self ..) (List.mem_cons_of_mem _ (List.mem_cons_self ..)) HM.out (by rw [HML.out, HN.out]) (by omega))
  clear h5 HOF H5
  go_wp2_with fail
  refine HE1.out.mono ?_
  rintro e w6 ⟨b1, vb1, rfl, h6⟩
  have HIV := Lib.hid (permInverse_any (o := [cellT p (permObj vp)]) p vp ls h6.swap (Turned.no p vp ls) (List.mem_cons_of_mem _ (List.mem_cons_self ..)) HM.out.1 (by rw [HML.out]; omega))
  clear h6 HE1
  go_wp2_with fail
  refine HIV.out.mono ?_
  rintro e w7 ⟨f7, p1, v7, rfl, h7⟩
  have HMI := Lib.hid (inv_mates HM.out)
  have HE2 := Lib.hid (encM h7 p1 v7 (invL ls) n (List.mem_cons_self ..) (List.mem_cons_of_mem _ (List.mem_cons_self ..)) HMI.out (by rw [invL_len, HML.out, HN.out]) (by omega))
  clear h7 HIV
  go_wp2_with fail
  refine HE2.out.mono ?_
  rintro e w8 ⟨b2, vb2, rfl, h8⟩
  have HV1 : Hid (vecT b1 vb1 (labelB ls n n) ∈ [vecT b2 vb2 (labelB (invL ls) n n), cellT p1 (permObj v7), rowT 3 v7 (intsOf (invL ls)), cellT p (permFull vp 1 0 0 f7), rowT 3 f7 (intsOf (invL ls)), vecT b1 vb1 (labelB ls n n)]) := by show _ ∈ _; simp
  have HD1 := Lib.hid (decM h8 (b := b1) (v := vb1) (xs := ls) (List.mem_append_left _ HV1.out) HM.out (by rw [HML.out, HN.out]) (by omega))
  clear h8 HE2
  go_wp2_with fail
  refine HD1.out.mono ?_
  rintro e w9 ⟨q, vq, OS, rfl, h9⟩
  have HD2 := Lib.hid (decM h9 (b := b2) (v := vb2) (xs := invL ls) (List.mem_cons_of_mem _ (List.mem_cons_of_mem _ (List.mem_append_right _ (List.mem_cons_self ..)))) HMI.out (by rw [invL_len, HML.out, HN.out]) (by omega))
  clear h9 HD1
  go_wp2_with fail
  refine HD2.out.mono ?_
  rintro e w10 ⟨r, vr, OS2, rfl, h10⟩
  have HL1 := Lib.hid (vecLen_any h10 (b := b1) (v := vb1) (l := labelB ls n n) (List.mem_cons_of_mem _ (List.mem_cons_of_mem _ (List.mem_append_right _ (List.mem_cons_of_mem _ (List.mem_cons_of_mem _ (List.mem_append_right _ (List.mem_append_left _ HV1.out))))))))
  have HL2 := Lib.hid (vecLen_any h10 (b := b2) (v := vb2) (l := labelB (invL ls) n n) (List.mem_cons_of_mem _ (List.mem_cons_of_mem _ (List.mem_append_right _ (List.mem_cons_of_mem _ (List.mem_cons_of_mem _ (List.mem_append_right _ (List.mem_cons_self ..))))))))
  rw [labelB_length] at HL1 HL2
  have HTH := Lib.hid (permThen_any h10 q r vq vr ls (invL ls) (PermV.of (List.mem_cons_of_mem _ (List.mem_cons_of_mem _ (List.mem_append_right _ (List.mem_cons_self ..)))) (List.mem_cons_of_mem _ (List.mem_cons_of_mem _ (List.mem_append_right _ (List.mem_cons_of_mem _ (List.mem_cons_self ..)))))) (PermV.of (List.mem_cons_self ..) (List.mem_cons_of_mem _ (List.mem_cons_self ..))) HM.out.1 HMI.out.1 (by rw [invL_len]) (by rw [HML.out]; omega))
  clear h10 HD2
  generalize n * (widthN n + 1) = Q at HL1 HL2
  go_wp2_with fail
  refine HL1.out.mono ?_
  rintro e w11 ⟨rfl, rfl⟩
  go_wp2_with fail
  refine HL2.out.mono ?_
  rintro e w11 ⟨rfl, rfl⟩
  clear HL1 HL2
  go_wp2_with fail
  refine HTH.out.mono ?_
  rintro e w11 ⟨o, vo, rfl, h11⟩
  rw [then_inv HM.out.1, HML.out] at h11
  have HON := Lib.hid (permOne_nat h11 N (by omega))
  clear h11 HTH
  go_wp2_with fail
  refine HON.out.mono ?_
  rintro e w12 ⟨o2, vo2, rfl, h12⟩
  have HOL : Hid ((oneL N).length = N) := mapL_len _ _
  have HSM := Lib.hid (permSame_any h12 o o2 vo vo2 (oneL N) (oneL N) (PermV.of (List.mem_cons_of_mem _ (List.mem_cons_of_mem _ (List.mem_cons_self ..))) (List.mem_cons_of_mem _ (List.mem_cons_of_mem _ (List.mem_cons_of_mem _ (List.mem_cons_self ..))))) (PermV.of (List.mem_cons_self ..) (List.mem_cons_of_mem _ (List.mem_cons_self ..))) (by rw [HOL.out]; omega) (by rw [HOL.out]; omega))
  clear h12 HON
  go_wp2_with fail
  refine HSM.out.mono ?_
  rintro e w13 ⟨he, h13⟩
  have he2 : e = .returned (.bool true) := by rw [he]; simp
  clear he
  subst he2
  have HB := Lib.hid h13.bel
  clear h13 HSM
  go_wp2_with fail
  go_ret
  exact ⟨rfl, HB.out⟩
end Go.Proofs.Ytoipbbobkllddaa

