/- The walk of PermTimes. -/
import Derived.Test.YtongakmljbebfaaOrbitsWalk
import Derived.Test.YtongakmljbebfaaThen
namespace Go.Proofs.Ytongakmljbebfaa
open Go.RowKit

set_option maxRecDepth 100000 in
set_option maxHeartbeats 4000000 in
theorem permTimes_walk (a0 : Int) (a1 : Option Addr) (len1 cap1 : Nat) (z1 : List Int) (w : World) (w0 : (Lit.int .u8 a0).wf = true) (w1 : IsRow .u8 w a1 len1 cap1 z1) :
    Calls Try.prog 4 #[.int .u8 a0, .slice a1 len1 cap1] w fun e w' => e = .returned (.bool true) ∧ Below w.heap.size w w' := by
  obtain ⟨p8, e0, hp8, R0, m0⟩ := w1.bytes
  have hplen : p8.length ≤ 9223372036854775807 := by unfold maxLen at m0; omega
  have H := Lib.hid (St.start w)
  have HR0 := Lib.hid R0
  have HP8 := Lib.hid (And.intro hp8 hplen)
  obtain ⟨n, rfl⟩ : ∃ n : Nat, a0 = n := ⟨a0.toNat, by have := wf_u8 w0; omega⟩
  have hn : n < 256 := by have := wf_u8 w0; omega
  clear w0 w1 m0 R0 hp8 hplen e0
  have HAW := Lib.hid (awake05_any (St.start w))
  go_enter Try.func4, Try.ntmps4
  go_wp2_with fail
  refine HAW.out.mono ?_
  rintro e w2 ⟨rfl, h2⟩
  obtain ⟨N, hN⟩ : ∃ N, n % 9 = N := ⟨_, rfl⟩
  have hN8 : N ≤ 8 := by omega
  have htm : ((n : Nat) : Int).tmod 9 = (N : Int) := by rw [Int.tmod_eq_emod_of_nonneg (by omega)]; omega
  have HMX := Lib.hid (refMix_any h2 N (by omega) (.slice a1 len1 cap1) p8 (fun W os' hW => hW.arg HR0.out) HP8.out.1)
  have H2 := Lib.hid h2
  clear h2 HAW H hN hn
  go_wp2_with fail
  refine HMX.out.mono ?_
  rintro e w3 ⟨v3, xs, rfl, hip, hxl, h3⟩
  have HIP := Lib.hid hip
  have HXL := Lib.hid hxl
  have HOF := Lib.hid (permOf_any h3 v3 xs (by omega) (fun W os' hW => hW.reads (E := 3) (by simp)))
  clear h3 HMX H2 hip
  go_wp2_with fail
  refine HOF.out.mono ?_
  rintro e w4 (⟨_, p, v, rfl, h4⟩ | ⟨hn, _⟩)
  rotate_left
  · exact absurd HIP.out hn
  have HOB := Lib.hid (permOrbits_any h4 p v xs (by simp) (by simp) HIP.out (by omega))
  clear h4 HOF
  go_wp2_with fail
  refine HOB.out.mono ?_
  rintro e w6 ⟨v6, ps, rfl, hps, h6⟩
  have HPS := Lib.hid hps
  obtain ⟨B, hB⟩ : ∃ B, rowT 24 v6 (ps.map Prod.fst) :: (ps.map orbT ++ [cellT p (permObj v), rowT 3 v (intsOf xs), rowT 3 v3 (intsOf xs)]) = B := ⟨_, rfl⟩
  rw [hB] at h6
  have HM1 : Hid (cellT p (permObj v) ∈ B) := by show _ ∈ _; rw [← hB]; simp
  have HM2 : Hid (rowT 3 v (intsOf xs) ∈ B) := by show _ ∈ _; rw [← hB]; simp
  have HM3 : Hid (rowT 3 v3 (intsOf xs) ∈ B) := by show _ ∈ _; rw [← hB]; simp
  have HM5 : Hid (rowT 24 v6 (ps.map Prod.fst) ∈ B) := by show _ ∈ _; rw [← hB]; simp
  have HM6 : Hid (∀ q ∈ ps, orbT q ∈ B) := by
    intro q hq
    rw [← hB]
    exact List.mem_cons_of_mem _ (List.mem_append_left _ (List.mem_map_of_mem hq))
  have H6 := Lib.hid h6
  obtain ⟨a6, c6, rfl, _, _⟩ := ownsRow_slice (h6.ok HM5.out)
  obtain ⟨a3, c3, rfl, _, _⟩ := ownsRow_slice (h6.ok HM3.out)
  have hpl : ps.length = rankN xs N := by
    have := congrArg List.length HPS.out
    rw [List.length_map, orbsN_len, hxl] at this; exact this
  rw [List.length_map, hpl] at HM5 ⊢
  rw [intsOf_len, hxl] at HM3 ⊢
  obtain ⟨M, hM⟩ : ∃ M, rankN xs N = M := ⟨_, rfl⟩
  have hMN : M ≤ N := by rw [← hM]; exact rankN_le xs N
  rw [hM] at HM5 hpl ⊢
  have HM := Lib.hid hM
  have HPL := Lib.hid hpl
  clear h6 hB HOB hps hxl hM hpl
  go_wp2_with fail
  go_loopw [32, 8] (fun kv tv wr => ∃ k : Nat, k ≤ M ∧ kv = .int .i64 k ∧ tv = .int .i64 (lcmN xs k : Nat) ∧ St w wr B) (fun kv _ _ => M - (intOf kv).toNat)
  case atStart => exact ⟨0, by omega, rfl, rfl, H6.out⟩
  case round =>
    obtain ⟨k, hk, rfl, rfl, hS⟩ := hrel
    have HS := Lib.hid hS
    clear hS H6
    have hsmall := lcmN_step HIP.out (by rw [HXL.out]; exact hN8) (j := k) (by rw [HXL.out, HM.out]; exact hk)
    have hpos := (lcmN_pos HIP.out k).1
    obtain ⟨C, hC⟩ : ∃ C, lcmN xs k = C := ⟨_, rfl⟩
    rw [hC] at hsmall hpos ⊢
    by_cases hlt : k < M
    · obtain ⟨u, j, hq, hj, hlead, hrank, hlk⟩ := lead_at HPS.out (k := k) (by rw [HXL.out, HM.out]; exact hlt)
      have hmem : rowT 3 u (intsOf (natsI (orbN xs j))) ∈ B := HM6.out _ (List.mem_of_getElem? hq)
      obtain ⟨au, cu, rfl, _, _⟩ := ownsRow_slice (HS.out.ok hmem)
      rw [intsOf_len, natsI_len, orbN_len] at hmem hq
      obtain ⟨T, hT⟩ : ∃ T, perN xs j = T := ⟨_, rfl⟩
      have hTs := perN_spec HIP.out hj
      have hlcm := lcmN_succ hlk
      rw [hT] at hmem hq hTs hlcm
      have hT1 := hTs.1
      have hTN : T ≤ 8 := Nat.le_trans hTs.2.1 (by rw [HXL.out]; exact hN8)
      rw [hC] at hlcm
      have HLC := Lib.hid hlcm
      obtain ⟨ao, cp, he, _, _, _, hcc⟩ := HS.out.reads HM5.out
      simp only [Value.slice.injEq] at he
      obtain ⟨rfl, hq8, rfl⟩ := he
      clear hq8
      have hv : (ps.map Prod.fst)[k]? = some (Value.slice au T cu) := by rw [List.getElem?_map, hq]; rfl
      rcases hcc with hcc | ⟨ab, aof, rfl, hcc⟩
      · rw [hcc] at hv; simp at hv
      have ck := hcc k _ hv
      clear hcc hv hmem hq hlk hTs hT hlcm hlead hrank hC
      go_wp2_with fail
      go_loopw [11, 12] (fun av bv wr2 => ∃ a b : Nat, 0 < a ∧ a ≤ 16777216 ∧ b ≤ 16777216 ∧ av = .int .i64 a ∧ bv = .int .i64 b ∧ Nat.gcd a b = Nat.gcd C T ∧ St w wr2 B) (fun _ bv _ => (intOf bv).toNat)
      case atStart => exact ⟨C, T, by omega, by omega, by omega, rfl, rfl, rfl, HS.out⟩
      case round =>
        obtain ⟨a, b, ha0, haC, hbC, rfl, rfl, hgcd, hS⟩ := hrel
        have HS := Lib.hid hS
        have HGC := Lib.hid hgcd
        clear hS hgcd
        by_cases hb : 0 < b
        · obtain ⟨r, hr⟩ : ∃ r, a % b = r := ⟨_, rfl⟩
          have hrb : r < b := by rw [← hr]; exact Nat.mod_lt _ hb
          have htm : (a : Int).tmod (b : Int) = (r : Int) := by rw [← hr, Int.tmod_eq_emod_of_nonneg (by omega)]; rfl
          have hne : ¬ (b : Int) = 0 := by omega
          have HG2 : Hid (Nat.gcd b r = Nat.gcd C T) := by show _ = _; rw [← hr, gcd_step]; exact HGC.out
          clear hr
          go_wp2_with fail
          go_region
          go_wp2_with fail
          go_roundw
          case rel => exact ⟨b, r, hb, hbC, by omega, rfl, rfl, HG2.out, HS.out.drew⟩
          case measure => simp [intOf]; omega
        · have hb0 : b = 0 := by omega
          have hg : a = Nat.gcd C T := by rw [← HGC.out, hb0, Nat.gcd_zero_right]
          have hd := lcm_by C T a hg ha0
          rw [← HLC.out] at hd
          obtain ⟨D, hD⟩ : ∃ D, lcmN xs (k + 1) = D := ⟨_, rfl⟩
          have hDs := lcmN_step HIP.out (by rw [HXL.out]; exact hN8) (j := k + 1) (by rw [HXL.out, HM.out]; exact hlt)
          obtain ⟨Q, hQ⟩ : ∃ Q, C / a = Q := ⟨_, rfl⟩
          have hQC : Q ≤ C := by rw [← hQ]; exact Nat.div_le_self _ _
          have htd : (C : Int).tdiv (a : Int) = (Q : Int) := by rw [← hQ, Int.tdiv_eq_ediv_of_nonneg (by omega)]; rfl
          have hne : ¬ (a : Int) = 0 := by omega
          rw [hD] at hd hDs
          rw [hQ] at hd
          have hml : (Q : Int) * (T : Int) = (D : Int) := by rw [← hd]; simp
          have HD := Lib.hid hD
          clear hd hg hQ hD
          go_wp2_with fail
          go_roundw
          case rel => exact ⟨k + 1, by omega, by go_num, by rw [HD.out], HS.out⟩
          case measure => simp [intOf]; omega
    · have hkM : k = M := by omega
      rw [hkM] at hC hlt hk ⊢
      clear hlt hk
      have hhome : ∀ t, timesL xs t = oneL N ↔ C ∣ t := by
        intro t
        have := times_home HIP.out t
        rw [HXL.out, HM.out, hC] at this; exact this
      have HH := Lib.hid hhome
      have HON := Lib.hid (permOne_nat HS.out N (by omega))
      have HM1 := HM1
      have HTL : Hid (∀ t, (timesL xs t).length = N) := by
        intro t; rw [timesL_len, HXL.out]
      have HOL : Hid ((oneL N).length = N) := mapL_len _ _
      clear hhome hC hpos HS
      go_wp2_with fail
      refine HON.out.mono ?_
      rintro e w7 ⟨r0, v0, rfl, h7⟩
      have S7 : Hid (St w w7 (cellT r0 (permObj v0) :: rowT 3 v0 (intsOf (timesL xs 0)) :: B)) := by
        show St _ _ _
        rw [timesL_zero, HXL.out]; exact h7
      clear h7 HON
      go_wp2_with fail
      go_loopw [56, 13] (fun kv xv wr => ∃ (k r : Nat) (v : Value), k ≤ C ∧ kv = .int .i64 k ∧ xv = .pointer (some ⟨r, 0, none⟩) ∧ St w wr (cellT r (permObj v) :: rowT 3 v (intsOf (timesL xs k)) :: B)) (fun kv _ _ => C - (intOf kv).toNat)
      case atStart => exact ⟨0, r0, v0, by omega, rfl, rfl, S7.out⟩
      case round =>
        obtain ⟨k, r, vr, hk, rfl, rfl, hS⟩ := hrel
        have HS := Lib.hid hS
        clear hS S7
        have hPV : PermV w (cellT r (permObj vr) :: rowT 3 vr (intsOf (timesL xs k)) :: B) r vr (timesL xs k) := PermV.of (List.mem_cons_self ..) (List.mem_cons_of_mem _ (List.mem_cons_self ..))
        have hPP : PermV w (cellT r (permObj vr) :: rowT 3 vr (intsOf (timesL xs k)) :: B) p v xs := (PermV.of HM1.out HM2.out).more [_, _]
        have HPV := Lib.hid hPV
        have HPP := Lib.hid hPP
        clear hPV hPP
        by_cases hlt : k < C
        · have HSTEP : Hid (∀ W, St w W (cellT r (permObj vr) :: rowT 3 vr (intsOf (timesL xs k)) :: B) → Calls Try.prog 21 #[.pointer (some ⟨r, 0, none⟩), .pointer (some ⟨p, 0, none⟩)] W fun e w' => ∃ r v', e = .returned (.tuple #[.pointer (some ⟨r, 0, none⟩), .int .i64 0]) ∧ St w w' (cellT r (permObj v') :: rowT 3 v' (intsOf (timesL xs (k + 1))) :: B)) := by
            intro W hW
            refine (permThen_any hW r p vr v (timesL xs k) xs HPV.out HPP.out (timesL_perm HIP.out k) HIP.out (by rw [timesL_len]) (by rw [HTL.out]; omega)).mono ?_
            rintro e w' ⟨r2, v2, rfl, h2⟩
            rw [timesL_succ] at h2
            exact ⟨r2, v2, rfl, h2.rot4.rot4.tail.tail⟩
          by_cases hk0 : k = 0
          · subst hk0
            have HT := Lib.hid (HSTEP.out wr HS.out)
            clear HSTEP
            go_wp2_with fail
            refine HT.out.mono ?_
            rintro e w8 ⟨r8, v8, rfl, h8⟩
            have H8 := Lib.hid h8
            clear h8 HT HS
            go_wp2_with fail
            go_roundw
            case rel => exact ⟨0 + 1, r8, v8, by omega, by go_num, rfl, H8.out⟩
            case measure => simp [intOf]; omega
          · have hkp : (0 : Int) < (k : Int) := by omega
            have HO2 := Lib.hid (permOne_nat HS.out N (by omega))
            have hne : decide (timesL xs k = oneL N) = false := decide_eq_false (fun e => by
              have := Nat.le_of_dvd (by omega) ((HH.out k).1 e); omega)
            have HNE := Lib.hid hne
            clear hne
            go_wp2_with fail
            refine HO2.out.mono ?_
            rintro e w8 ⟨r8, v8, rfl, h8⟩
            have HSM := Lib.hid (permSame_any h8 r r8 vr v8 (timesL xs k) (oneL N) (HPV.out.more [_, _]) (PermV.of (List.mem_cons_self ..) (List.mem_cons_of_mem _ (List.mem_cons_self ..))) (by rw [HTL.out]; omega) (by rw [HOL.out]; omega))
            clear h8 HO2
            go_wp2_with fail
            refine HSM.out.mono ?_
            rintro e w9 ⟨rfl, h9⟩
            rw [HNE.out]
            have HT := Lib.hid (HSTEP.out w9 h9.tail.tail)
            clear h9 HSM HSTEP HS
            go_wp2_with fail
            refine HT.out.mono ?_
            rintro e w10 ⟨r10, v10, rfl, h10⟩
            have H10 := Lib.hid h10
            clear h10 HT
            go_wp2_with fail
            go_roundw
            case rel => exact ⟨k + 1, r10, v10, by omega, by go_num, rfl, H10.out⟩
            case measure => simp [intOf]; omega
        · have hkC : k = C := by omega
          have HEQ : Hid (decide (timesL xs k = oneL N) = true) := decide_eq_true ((HH.out k).2 (by rw [hkC]; exact Nat.dvd_refl _))
          have HO2 := Lib.hid (permOne_nat HS.out N (by omega))
          rw [hkC] at HPV HPP HEQ HS HO2 ⊢
          clear hkC hlt hk
          go_wp2_with fail
          refine HO2.out.mono ?_
          rintro e w8 ⟨r8, v8, rfl, h8⟩
          have HSM := Lib.hid (permSame_any h8 r r8 vr v8 (timesL xs C) (oneL N) (HPV.out.more [_, _]) (PermV.of (List.mem_cons_self ..) (List.mem_cons_of_mem _ (List.mem_cons_self ..))) (by rw [HTL.out]; omega) (by rw [HOL.out]; omega))
          clear h8 HO2 HS
          go_wp2_with fail
          refine HSM.out.mono ?_
          rintro e w9 ⟨rfl, h9⟩
          rw [HEQ.out]
          have HB9 := Lib.hid h9.bel
          clear h9 HSM
          go_wp2_with fail
          go_ret
          exact ⟨rfl, HB9.out⟩
end Go.Proofs.Ytongakmljbebfaa

