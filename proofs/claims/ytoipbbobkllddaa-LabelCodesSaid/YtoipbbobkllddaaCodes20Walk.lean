/- The walk of LabelCodes. -/
import Derived.Test.YtoipbbobkllddaaTurnsWalk
import Derived.Test.YtoipbbobkllddaaRefEnc
import Derived.Test.YtoipbbobkllddaaRefOut
namespace Go.Proofs.Ytoipbbobkllddaa
open Go.RowKit

set_option maxRecDepth 100000 in
set_option maxHeartbeats 4000000 in
theorem labelCodes_walk (a0 : Int) (a1 : Option Addr) (len1 cap1 : Nat) (z1 : List Int) (a2 : Option Addr) (len2 cap2 : Nat) (z2 : List Bool) (w : World) (w0 : (Lit.int .u8 a0).wf = true) (w1 : IsRow .u8 w a1 len1 cap1 z1) (w2 : IsFlags w a2 len2 cap2 z2) :
    Calls Try.prog 4 #[.int .u8 a0, .slice a1 len1 cap1, .slice a2 len2 cap2] w fun e w' => e = .returned (.bool true) ∧ Below w.heap.size w w' := by
  obtain ⟨p8, e0, hp8, R0, m0⟩ := w1.bytes
  obtain ⟨R1, hfl, m1⟩ := w2.reads
  have HR0 := Lib.hid R0
  have HR1 := Lib.hid R1
  have HP8 := Lib.hid hp8
  have HFL := Lib.hid hfl
  obtain ⟨m, rfl⟩ : ∃ n : Nat, a0 = n := ⟨a0.toNat, by have := wf_u8 w0; omega⟩
  have hm : m < 256 := by have := wf_u8 w0; omega
  clear w0 w1 w2 m0 m1 R0 R1 hp8 e0 hfl
  obtain ⟨n, hn⟩ : ∃ n, m % 40 = n := ⟨_, rfl⟩
  have hn40 : n < 40 := by omega
  have htm : (m : Int).tmod 40 = (n : Int) := by rw [Int.tmod_eq_emod_of_nonneg (by omega)]; omega
  have HAW := Lib.hid (awake20_any (St.start w))
  clear hm hn
  go_enter Try.func4, Try.ntmps4
  go_wp2_with fail
  refine HAW.out.mono ?_
  rintro e w2 ⟨rfl, h2⟩
  have HAN := Lib.hid (refAny_any h2 n (by omega) (.slice none 0 0) [] (fun W os' hW => Reads.nil W) (by simp) 0 (by omega))
  have H2 := Lib.hid h2
  clear h2 HAW
  go_wp2_with fail
  refine HAN.out.mono ?_
  rintro e w3 ⟨v3, ss, rfl, hip, hsl, h3⟩
  have HMX := Lib.hid (refMixed_any h3 n (by omega) v3 ss hip hsl (fun W os' hW => hW.reads (E := 3) (by simp)) 0 (.slice a1 len1 cap1) p8 (fun W os' hW => hW.arg HR0.out) HP8.out a2 len2 cap2 (z2.take len2) (fun i => (z2.take len2).getD i false) (fun _ => rfl) HFL.out (fun W os' hW => hW.arg HR1.out))
  clear h3 HAN H2 hip hsl
  go_wp2_with fail
  refine HMX.out.mono ?_
  rintro e w4 ⟨xa, xl, xc, x1, x2, v4, es, rfl, hie, hel, h4⟩
  have hM := mixL_mates hie (fun i => (z2.take len2).getD i false)
  have hML := mixL_len es (fun i => (z2.take len2).getD i false)
  obtain ⟨ls, hls⟩ : ∃ ls, mixL es (fun i => (z2.take len2).getD i false) = ls := ⟨_, rfl⟩
  rw [hls] at h4 hM hML
  rw [hel] at hML
  obtain ⟨N, hN⟩ : ∃ N, 2 * n = N := ⟨_, rfl⟩
  rw [hN] at hML
  have hq : (N : Int).tdiv 2 = (n : Int) := by rw [Int.tdiv_eq_ediv_of_nonneg (by omega)]; omega
  obtain ⟨al, cl, rfl, j1, j2⟩ := ownsRow_slice h4.row
  rw [intsOf_len, hML] at h4 ⊢
  have HM := Lib.hid hM
  have HML := Lib.hid hML
  have HN := Lib.hid hN
  have hN1 : N ≤ 100 := by omega
  have H4 := Lib.hid (h4.tail.alloc (.cells #[.slice xa xl xc, .int .i64 x1, .int .i64 x2] 40))
  have H5 := Lib.hid (h4.alloc (.cells #[.slice xa xl xc, .int .i64 x1, .int .i64 x2] 40))
  clear h4 HMX hM hML hls hie hel hN j1 j2 H4
  have hOF := permOf_any H5.out (.slice al N cl) ls (by rw [HML.out]; omega) (fun W os' hW => hW.reads (E := 3) (by simp))
  have HOF := Lib.hid hOF
  clear hOF
  go_wp2_with fail
  refine HOF.out.mono ?_
  rintro e w5 (⟨_, p, vp, rfl, h5⟩ | ⟨hno, _⟩)
  rotate_left
  · exact absurd HM.out.1 hno
  have HE1 := Lib.hid (encM h5 p vp ls n (List.mem_cons_self ..) (List.mem_cons_of_mem _ (List.mem_cons_self ..)) HM.out (by rw [HML.out, HN.out]) (by omega))
  clear h5 HOF H5
  go_wp2_with fail
  refine HE1.out.mono ?_
  rintro e w6 ⟨b1, vb1, rfl, h6⟩
  have hw16 := widthN_16 n (by omega)
  have HLB := Lib.hid (labelB_length ls n n)
  have hbb : n * (widthN n + 1) ≤ 40 * 17 := Nat.mul_le_mul (by omega) (by omega)
  have HTX := Lib.hid (vecText_any h6 (b := b1) (v := vb1) (l := labelB ls n n) (List.mem_cons_self ..) (by rw [HLB.out]; omega))
  clear h6 HE1
  go_wp2_with fail
  refine HTX.out.mono ?_
  rintro e w7 ⟨rfl, h7⟩
  have HRE := Lib.hid (refEnc_any h7 (.slice al N cl) ls n (fun W os' hW => hW.reads (E := 3) (by simp)) HM.out.1 (by rw [HML.out, HN.out]) (by omega))
  clear h7 HTX
  go_wp2_with fail
  refine HRE.out.mono ?_
  rintro e w8 ⟨v8, rfl, h8⟩
  have HRT := Lib.hid (refText_any v8 (labelB ls n n) w8 (h8.reads (List.mem_cons_self ..)))
  have HL1 := Lib.hid (vecLen_any h8 (b := b1) (v := vb1) (l := labelB ls n n) (List.mem_cons_of_mem _ (List.mem_cons_self ..)))
  have HSZ := Lib.hid (labSize_any n (by omega) w8)
  have HD1 := Lib.hid (decM h8 (b := b1) (v := vb1) (xs := ls) (List.mem_cons_of_mem _ (List.mem_cons_self ..)) HM.out (by rw [HML.out, HN.out]) (by omega))
  rw [HLB.out] at HL1
  clear h8 HRE hw16
  obtain ⟨Q, hQ⟩ : ∃ Q, n * (widthN n + 1) = Q := ⟨_, rfl⟩
  rw [hQ] at HL1 HSZ hbb
  clear HLB hQ
  generalize hT : strOf (textOf (labelB ls n n)) = T at HRT ⊢
  clear hT
  go_wp2_with fail
  refine HRT.out.mono ?_
  rintro e w9 ⟨rfl, rfl⟩
  go_wp2_with fail
  refine HL1.out.mono ?_
  rintro e w9 ⟨rfl, rfl⟩
  go_wp2_with fail
  refine HSZ.out.mono ?_
  rintro e w9 ⟨rfl, rfl⟩
  clear HRT HL1 HSZ
  go_wp2_with fail
  refine HD1.out.mono ?_
  rintro e w9 ⟨q, vq, OS, rfl, h9⟩
  have HSM := Lib.hid (permSame_any h9 p q vp vq ls ls (PermV.of (List.mem_cons_of_mem _ (List.mem_cons_of_mem _ (List.mem_append_right _ (List.mem_cons_of_mem _ (List.mem_cons_of_mem _ (List.mem_cons_self ..)))))) (List.mem_cons_of_mem _ (List.mem_cons_of_mem _ (List.mem_append_right _ (List.mem_cons_of_mem _ (List.mem_cons_of_mem _ (List.mem_cons_of_mem _ (List.mem_cons_self ..)))))))) (PermV.of (List.mem_cons_self ..) (List.mem_cons_of_mem _ (List.mem_cons_self ..))) (by rw [HML.out]; omega) (by rw [HML.out]; omega))
  clear h9 HD1
  go_wp2_with fail
  refine HSM.out.mono ?_
  rintro e w13 ⟨he, h13⟩
  have he2 : e = .returned (.bool true) := by rw [he]; simp
  clear he
  subst he2
  have HB := Lib.hid h13.bel
  clear h13 HSM
  go_wp2_with fail
  go_ret
  exact ⟨rfl, HB.out⟩
end Go.Proofs.Ytoipbbobkllddaa

