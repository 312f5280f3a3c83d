/- The walk of PermOrbits. -/
import Derived.Test.YtongakmljbebfaaAwakePm
import Derived.Deep.RegionHeld3
namespace Go.Proofs.Ytongakmljbebfaa
open Go.RowKit

theorem lead_at {xs : List Int} {ps : List (Value × List Nat)} (h : ps.map Prod.snd = orbsN xs xs.length) {k : Nat} (hk : k < rankN xs xs.length) :
    ∃ u j, ps[k]? = some (u, orbN xs j) ∧ j < xs.length ∧ leadN xs j = j ∧ rankN xs j = k ∧ (leadsN xs xs.length)[k]? = some j := by
  have hl : k < (leadsN xs xs.length).length := by rw [leadsN_len]; exact hk
  have hpl : ps.length = (leadsN xs xs.length).length := by
    have := congrArg List.length h
    rw [List.length_map, orbsN_len, ← leadsN_len] at this; exact this
  obtain ⟨j, hj⟩ : ∃ j, (leadsN xs xs.length)[k]? = some j := ⟨_, List.getElem?_eq_getElem hl⟩
  have hm := leadsN_mem (List.mem_of_getElem? hj)
  have hr := leadsN_get hj
  obtain ⟨q, hq⟩ : ∃ q, ps[k]? = some q := ⟨_, List.getElem?_eq_getElem (by omega)⟩
  have h2 := congrArg (fun l => l[k]?) h
  simp only [orbsN, List.getElem?_map, hq, hj, Option.map_some, Option.some.injEq] at h2
  exact ⟨q.1, j, by rw [hq, ← h2], hm.1, hm.2, hr, hj⟩

/-- how many stand in the first k orbits -/
noncomputable def sumN (xs : List Int) (k : Nat) : Nat := (((leadsN xs xs.length).take k).map (perN xs)).sum
theorem sumN_succ {xs : List Int} {k j : Nat} (h : (leadsN xs xs.length)[k]? = some j) : sumN xs (k + 1) = sumN xs k + perN xs j := by
  obtain ⟨hk, hj⟩ := List.getElem?_eq_some_iff.1 h
  unfold sumN
  rw [List.take_succ_eq_append_getElem hk, hj, List.map_append, List.sum_append]; simp
theorem sumN_all {xs : List Int} (hp : IsPerm xs) : sumN xs (rankN xs xs.length) = xs.length := by
  unfold sumN
  rw [← leadsN_len, List.take_length, sizes_all hp]
theorem sumN_le {xs : List Int} (hp : IsPerm xs) (k : Nat) : sumN xs k ≤ xs.length := by
  have h := sizes_all hp
  unfold sumN
  have e : (leadsN xs xs.length).map (perN xs) = ((leadsN xs xs.length).take k).map (perN xs) ++ ((leadsN xs xs.length).drop k).map (perN xs) := by
    rw [← List.map_append, List.take_append_drop]
  rw [e, List.sum_append] at h
  omega

theorem eqSame {w0 w : World} {os : List Thing} (h : St w0 w os) (u v : Value) (xs : List Int) (hu : Reads w u (intsOf xs)) (hv : Reads w v (intsOf xs)) :
    Calls Try.prog 13 #[u, v] w fun e w' => e = .returned (.bool true) ∧ St w0 w' os := by
  refine Calls.mono (equalInts_any u v xs xs w hu hv) ?_
  rintro e w' ⟨rfl, m, rfl⟩
  exact ⟨by simp, h.same (Keeps.drewN _ m)⟩

theorem min_is {xs : List Int} (hp : IsPerm xs) {j : Nat} (hj : j < xs.length) (hl : leadN xs j = j) {m : Int} (h1 : m ∈ natsI (orbN xs j)) (h2 : ∀ y ∈ natsI (orbN xs j), m ≤ y) : m = (j : Int) := by
  obtain ⟨y, hy, rfl⟩ := List.mem_map.1 h1
  have h3 := (mem_orbN hp hj y).1 hy
  have h4 := leadN_le xs j h3
  have h5 := h2 (j : Int) (List.mem_map.2 ⟨j, (mem_orbN hp hj j).2 (Rch.refl xs j), rfl⟩)
  have h6 : (y : Int) ≤ (j : Int) := h5
  show (y : Int) = (j : Int)
  omega

set_option maxRecDepth 100000 in
set_option maxHeartbeats 4000000 in
theorem permOrbits_walk (a0 : Int) (a1 : Option Addr) (len1 cap1 : Nat) (z1 : List Int) (w : World) (w0 : (Lit.int .u8 a0).wf = true) (w1 : IsRow .u8 w a1 len1 cap1 z1) :
    Calls Try.prog 3 #[.int .u8 a0, .slice a1 len1 cap1] w fun e w' => e = .returned (.bool true) ∧ Below w.heap.size w w' := by
  obtain ⟨p8, e0, hp8, R0, m0⟩ := w1.bytes
  have hplen : p8.length ≤ 9223372036854775807 := by unfold maxLen at m0; omega
  have H := Lib.hid (St.start w)
  have HR0 := Lib.hid R0
  have HP8 := Lib.hid (And.intro hp8 hplen)
  obtain ⟨n, rfl⟩ : ∃ n : Nat, a0 = n := ⟨a0.toNat, by have := wf_u8 w0; omega⟩
  have hn : n < 256 := by have := wf_u8 w0; omega
  clear w0 w1 m0 R0 hp8 hplen e0
  have HAW := Lib.hid (awake05_any (St.start w))
  go_enter Try.func3, Try.ntmps3
  go_wp2_with fail
  refine HAW.out.mono ?_
  rintro e w2 ⟨rfl, h2⟩
  obtain ⟨N, hN⟩ : ∃ N, n % 25 = N := ⟨_, rfl⟩
  have hN25 : N < 25 := by omega
  have htm : ((n : Nat) : Int).tmod 25 = (N : Int) := by rw [Int.tmod_eq_emod_of_nonneg (by omega)]; omega
  have HMX := Lib.hid (refMix_any h2 N (by omega) (.slice a1 len1 cap1) p8 (fun W os' hW => hW.arg HR0.out) HP8.out.1)
  have H2 := Lib.hid h2
  clear h2 HAW H hN hn
  go_wp2_with fail
  refine HMX.out.mono ?_
  rintro e w3 ⟨v3, xs, rfl, hip, hxl, h3⟩
  have HIP := Lib.hid hip
  have HXL := Lib.hid hxl
  have HOF := Lib.hid (permOf_any h3 v3 xs (by omega) (fun W os' hW => hW.reads (E := 3) (by simp)))
  clear h3 HMX H2 hip
  go_wp2_with fail
  refine HOF.out.mono ?_
  rintro e w4 (⟨_, p, v, rfl, h4⟩ | ⟨hn, _⟩)
  rotate_left
  · exact absurd HIP.out hn
  have HNM := Lib.hid (refNames_any h4 v3 xs (fun W os' hW => hW.reads (E := 3) (by simp)) HIP.out (by omega))
  clear h4 HOF
  go_wp2_with fail
  refine HNM.out.mono ?_
  rintro e w5 ⟨v5, rfl, h5⟩
  have HOB := Lib.hid (permOrbits_any h5 p v xs (by simp) (by simp) HIP.out (by omega))
  clear h5 HNM
  go_wp2_with fail
  refine HOB.out.mono ?_
  rintro e w6 ⟨v6, ps, rfl, hps, h6⟩
  have HPS := Lib.hid hps
  have HNP := Lib.hid (permNames_any h6 p v xs (by simp) (by simp) HIP.out (by omega))
  clear h6 HOB hps
  go_wp2_with fail
  refine HNP.out.mono ?_
  rintro e w7 ⟨v7, rfl, h7⟩
  have HEQ := Lib.hid (equalInts_any v7 v5 (namesN xs) (namesN xs) w7 (h7.reads (List.mem_cons_self ..)) (h7.reads (E := 3) (xs := intsOf (namesN xs)) (by simp)))
  have H7 := Lib.hid h7
  clear h7 HNP
  go_wp2_with fail
  refine HEQ.out.mono ?_
  rintro e w8 ⟨he8, m8, rfl⟩
  have he8' : e = .returned (.bool true) := by rw [he8]; simp
  clear he8
  subst he8'
  have h8 := (H7.out.same (Keeps.drewN _ m8)).tail
  generalize w7.drewN m8 = w8 at h8 ⊢
  obtain ⟨B, hB⟩ : ∃ B, rowT 24 v6 (ps.map Prod.fst) :: (ps.map orbT ++ [rowT 3 v5 (intsOf (namesN xs)), cellT p (permObj v), rowT 3 v (intsOf xs), rowT 3 v3 (intsOf xs)]) = B := ⟨_, rfl⟩
  rw [hB] at h8
  have HM1 : Hid (cellT p (permObj v) ∈ B) := by show _ ∈ _; rw [← hB]; simp
  have HM2 : Hid (rowT 3 v (intsOf xs) ∈ B) := by show _ ∈ _; rw [← hB]; simp
  have HM3 : Hid (rowT 3 v3 (intsOf xs) ∈ B) := by show _ ∈ _; rw [← hB]; simp
  have HM4 : Hid (rowT 3 v5 (intsOf (namesN xs)) ∈ B) := by show _ ∈ _; rw [← hB]; simp
  have HM5 : Hid (rowT 24 v6 (ps.map Prod.fst) ∈ B) := by show _ ∈ _; rw [← hB]; simp
  have HM6 : Hid (∀ q ∈ ps, orbT q ∈ B) := by
    intro q hq
    rw [← hB]
    exact List.mem_cons_of_mem _ (List.mem_append_left _ (List.mem_map_of_mem hq))
  have H8 := Lib.hid h8
  have HCT := Lib.hid (refCount_any h8 v3 xs (fun W os' hW => hW.reads (E := 3) (List.mem_append_right _ HM3.out)) HIP.out (by omega))
  obtain ⟨a6, c6, rfl, _, _⟩ := ownsRow_slice (h8.ok HM5.out)
  obtain ⟨a3, c3, rfl, _, _⟩ := ownsRow_slice (h8.ok HM3.out)
  obtain ⟨a5, c5, rfl, _, _⟩ := ownsRow_slice (h8.ok HM4.out)
  obtain ⟨av, cv, rfl, _, _⟩ := ownsRow_slice (h8.ok HM2.out)
  have HCELL : Hid (∀ W os', St w W (os' ++ B) → W.cell? ⟨p, 0, none⟩ = some (.slice av N cv)) := by
    intro W os' hW
    have := hW.permAt (List.mem_append_right _ HM1.out)
    rw [intsOf_len, hxl] at this; exact this
  have hpl : ps.length = rankN xs N := by
    have := congrArg List.length HPS.out
    rw [List.length_map, orbsN_len, hxl] at this; exact this
  rw [List.length_map, hpl] at HM5 ⊢
  rw [intsOf_len, hxl] at HM3 HCT ⊢
  rw [intsOf_len, namesN_len, hxl] at HM4 ⊢
  obtain ⟨M, hM⟩ : ∃ M, rankN xs N = M := ⟨_, rfl⟩
  have hMN : M ≤ N := by rw [← hM]; exact rankN_le xs N
  rw [hM] at HM5 HCT hpl ⊢
  have HM := Lib.hid hM
  have HPL := Lib.hid hpl
  clear h8 hB HEQ H7 hxl hM hpl
  go_wp2_with fail
  refine HCT.out.mono ?_
  rintro e w9 ⟨rfl, h9⟩
  have H9 := Lib.hid h9
  clear h9 H8 HCT
  go_wp2_with fail
  go_loopw [49, 10] (fun kv cv wr => ∃ k : Nat, k ≤ M ∧ kv = .int .i64 k ∧ cv = .int .i64 (sumN xs k : Nat) ∧ St w wr B) (fun kv _ _ => M - (intOf kv).toNat)
  case atStart => exact ⟨0, by omega, rfl, rfl, H9.out⟩
  case round =>
    obtain ⟨k, hk, rfl, rfl, hS⟩ := hrel
    have HS := Lib.hid hS
    clear hS H9
    by_cases hlt : k < M
    · obtain ⟨u, j, hq, hj, hlead, hrank, hlk⟩ := lead_at HPS.out (k := k) (by rw [HXL.out, HM.out]; exact hlt)
      have hjN : j < N := by rw [← HXL.out]; exact hj
      have hmem : rowT 3 u (intsOf (natsI (orbN xs j))) ∈ B := HM6.out _ (List.mem_of_getElem? hq)
      obtain ⟨au, cu, rfl, _, _⟩ := ownsRow_slice (HS.out.ok hmem)
      rw [intsOf_len, natsI_len, orbN_len] at hmem hq
      obtain ⟨T, hT⟩ : ∃ T, perN xs j = T := ⟨_, rfl⟩
      have hTs := perN_spec HIP.out hj
      have hsum := sumN_succ hlk
      have hsle := sumN_le HIP.out (k + 1)
      rw [hT] at hmem hq hTs hsum
      have hT1 := hTs.1
      have hT0 : (0 : Int) < (T : Int) := by omega
      have hT00 : 0 < T := by omega
      have hT000 : ¬ T = 0 := by omega
      have hTN : T ≤ N := by rw [← HXL.out]; exact hTs.2.1
      rw [HXL.out] at hsle
      have HT := Lib.hid hT
      have HLD := Lib.hid (And.intro hj (And.intro hlead hrank))
      have HMM := Lib.hid hmem
      have HSUM := Lib.hid hsum
      obtain ⟨ao, cp, he, _, _, _, hcc⟩ := HS.out.reads HM5.out
      simp only [Value.slice.injEq] at he
      obtain ⟨rfl, hq8, rfl⟩ := he
      clear hq8
      have hv : (ps.map Prod.fst)[k]? = some (Value.slice au T cu) := by rw [List.getElem?_map, hq]; rfl
      rcases hcc with hcc | ⟨ab, aof, rfl, hcc⟩
      · rw [hcc] at hv; simp at hv
      have ck := hcc k _ hv
      obtain ⟨ao, cp, he, _, _, _, hcu⟩ := HS.out.reads hmem
      simp only [Value.slice.injEq] at he
      obtain ⟨rfl, hq8, rfl⟩ := he
      clear hq8
      have hv0 : (intsOf (natsI (orbN xs j)))[0]? = some (.int .i64 j) := by
        simp only [intsOf, natsI, List.map_map, List.getElem?_map, orbN_get0 HIP.out hj]; rfl
      rcases hcu with hcu | ⟨ub, uof, rfl, hcu⟩
      · rw [hcu] at hv0; simp at hv0
      have HU : Hid (∀ W os', St w W (os' ++ B) → Reads W (.slice (some ⟨ub, uof, none⟩) T cu) (intsOf (natsI (orbN xs j))) ∧ W.cell? ⟨ub, uof, none⟩ = some (.int .i64 j)) := by
        intro W os' hW
        refine ⟨hW.reads (E := 3) (List.mem_append_right _ HMM.out), ?_⟩
        obtain ⟨ao, cp, he, _, _, _, hcu⟩ := hW.reads (E := 3) (List.mem_append_right _ HMM.out)
        rcases hcu with hcu | ⟨ub2, uof2, he2, hcu⟩
        · rw [hcu] at hv0; simp at hv0
        · simp only [Value.slice.injEq] at he
          obtain ⟨rfl, _, _⟩ := he
          cases he2
          have := hcu 0 _ hv0
          rwa [Nat.add_zero] at this
      have HRO := Lib.hid (refOrbit_any HS.out.drew (.slice a3 N c3) xs (fun W os' hW => hW.reads (E := 3) (List.mem_append_right _ HM3.out)) HIP.out (by rw [HXL.out]; omega) j hj)
      have kU := (HU.out wr [] HS.out).2
      have hw1 : ((sumN xs k : Nat) : Int) + (T : Int) = ((sumN xs (k + 1) : Nat) : Int) := by omega
      clear hcu hv0 hcc hv hmem hq hlk hTs hT hsum hlead hrank
      go_wp2_with fail
      go_region_held3 (fun w' => w'.cell? ⟨ub, uof, none⟩ = some (.int .i64 (j : Nat))) (go_keep)
        (first | (go_at_call 16; refine HRO.out.mono ?_; rintro e w5 ⟨v5x, rfl, h5x⟩; have kU := (HU.out w5 [_] h5x).2; have HE5 := Lib.hid (eqSame h5x (.slice (some ⟨ub, uof, none⟩) T cu) v5x (natsI (orbN xs j)) (HU.out w5 [_] h5x).1 (h5x.reads (List.mem_cons_self ..))); clear h5x)
               | (go_at_call 13; refine HE5.out.mono ?_; rintro e w6 ⟨rfl, h6x⟩; have H6 := Lib.hid h6x.tail; clear h6x; have kU := (HU.out _ [] H6.out).2; have HMN := Lib.hid (min_any (.slice (some ⟨ub, uof, none⟩) T cu) (natsI (orbN xs j)) (HU.out _ [] H6.out).1 (by rw [natsI_len, orbN_len, HT.out]; omega)))
               | (go_at_call 17; refine HMN.out.mono ?_; rintro e w7 ⟨mm, rfl, hmm1, hmm2, rfl⟩; have HMJ : Hid (mm = (j : Int)) := min_is HIP.out HLD.out.1 HLD.out.2.1 hmm1 hmm2; rw [HMJ.out]; clear hmm1 hmm2))
      clear HRO HE5 HMN HMJ kU HS
      go_wp2_with fail
      go_loopw [76] (fun jv wr => ∃ t : Nat, t ≤ T ∧ jv = .int .i64 t ∧ St w wr B) (fun jv _ => T - (intOf jv).toNat)
      case atStart => exact ⟨0, by omega, rfl, H6.out⟩
      case round =>
        obtain ⟨t, ht, rfl, hS⟩ := hrel
        have HS := Lib.hid hS
        clear hS H6
        by_cases htT : t < T
        · obtain ⟨x, hx⟩ : ∃ x, (orbN xs j)[t]? = some x := ⟨_, List.getElem?_eq_getElem (by rw [orbN_len, HT.out]; exact htT)⟩
          have hrc := (mem_orbN HIP.out HLD.out.1 x).1 (List.mem_of_getElem? hx)
          have hxl := Rch.lt HIP.out HLD.out.1 hrc
          have hlx := leadN_congr HIP.out HLD.out.1 hrc
          rw [HLD.out.2.1] at hlx
          have hxN : x < N := by rw [← HXL.out]; exact hxl
          obtain ⟨ao, cp, he, _, _, _, hcu⟩ := (HU.out wr [] HS.out).1
          simp only [Value.slice.injEq] at he
          obtain ⟨he1, hq8, rfl⟩ := he
          clear hq8
          have hv : (intsOf (natsI (orbN xs j)))[t]? = some (.int .i64 x) := by
            simp only [intsOf, natsI, List.map_map, List.getElem?_map, hx]; rfl
          rcases hcu with hcu | ⟨ub2, uof2, he2, hcu⟩
          · rw [hcu] at hv; simp at hv
          rw [← he1] at he2
          cases he2
          have ct := hcu t _ hv
          obtain ⟨ao2, cp2, he3, _, _, _, hcn⟩ := HS.out.reads HM4.out
          simp only [Value.slice.injEq] at he3
          obtain ⟨rfl, hq8, rfl⟩ := he3
          clear hq8
          have hvn : (intsOf (namesN xs))[x]? = some (.int .i64 k) := by
            rw [← iRow_names, iRow_get _ _ x hxl, nameN_end hxl, hlx, HLD.out.2.2]
          rcases hcn with hcn | ⟨nb, nof, rfl, hcn⟩
          · rw [hcn] at hvn; simp at hvn
          have cn := hcn x _ hvn
          have HO3 := Lib.hid (permOrbit_any HS.out p _ xs HM1.out HM2.out HIP.out (by rw [HXL.out]; omega) x hxl)
          have HXX := Lib.hid hxl
          clear hcn hvn hcu hv he1 hx hrc hlx hxl
          go_wp2_with fail
          refine HO3.out.mono ?_
          rintro e w7 ⟨v7o, rfl, h7⟩
          have HR7 := Lib.hid (refOrbit_any h7 (.slice a3 N c3) xs (fun W os' hW => hW.reads (E := 3) (List.mem_append_right _ (List.mem_cons_of_mem _ HM3.out))) HIP.out (by rw [HXL.out]; omega) x HXX.out)
          clear h7 HO3 HS
          go_wp2_with fail
          refine HR7.out.mono ?_
          rintro e w8 ⟨v8o, rfl, h8⟩
          have HE8 := Lib.hid (eqSame h8 v7o v8o (natsI (orbN xs x)) (h8.reads (E := 3) (List.mem_cons_of_mem _ (List.mem_cons_self ..))) (h8.reads (List.mem_cons_self ..)))
          clear h8 HR7
          go_wp2_with fail
          refine HE8.out.mono ?_
          rintro e w9 ⟨rfl, h9⟩
          have H9 := Lib.hid h9.tail.tail
          clear h9 HE8
          go_wp2_with fail
          go_roundw
          case rel => exact ⟨t + 1, by omega, by go_num, H9.out⟩
          case measure => simp [intOf]; omega
        · have htT2 : t = T := by omega
          clear htT ht
          go_wp2_with fail
          go_roundw
          case rel => exact ⟨k + 1, by omega, by go_num, rfl, HS.out⟩
          case measure => simp [intOf]; omega
    · have hkM : k = M := by omega
      rw [hkM]
      have hall := sumN_all HIP.out
      rw [HXL.out, HM.out] at hall
      rw [hall]
      clear hall hkM hlt hk
      go_wp2_with fail
      have HO1 := Lib.hid (permOrbit_out wr (p := p) (n := N) (a := av) (c := cv) (HCELL.out _ [] HS.out) (-1) (by omega))
      have HO2 := Lib.hid (permOrbit_out wr (p := p) (n := N) (a := av) (c := cv) (HCELL.out _ [] HS.out) (N : Nat) (by omega))
      refine HO1.out.mono ?_
      rintro e w5 ⟨rfl, rfl⟩
      go_wp2_with fail
      refine HO2.out.mono ?_
      rintro e w5 ⟨rfl, rfl⟩
      go_wp2_with fail
      go_ret
      exact ⟨rfl, HS.out.bel⟩
end Go.Proofs.Ytongakmljbebfaa

