/- The document's Is, Mate and Mates. -/
import Derived.Test.YtoipbbobkllddaaLabelP
import Derived.Test.YtoipbbobkllddaaSame
import Derived.WalkMore
namespace Go.Proofs.Ytoipbbobkllddaa
open Go.RowKit

theorem mate6_any (x : Int) (h0 : 0 ≤ x) (h1 : x < 4611686018427387904) (w : World) : Calls Try.prog 47 #[.int .i64 x] w fun e w' => e = .returned (.int .i64 (mateI x)) ∧ w = w' := by
  by_cases h : x % 2 = 0
  · have HE : Hid (mateI x = x + 1) := by show _ = _; unfold mateI; rw [if_pos h]
    rw [HE.out]
    have d1 : (x % 2 == 0) = true := beq_iff_eq.2 h
    go_enter Try.func47, Try.ntmps47
    go_wp2
    go_ret
    exact ⟨rfl, rfl⟩
  · have HE : Hid (mateI x = x - 1) := by show _ = _; unfold mateI; rw [if_neg h]
    rw [HE.out]
    have d1 : (x % 2 == 0) = false := beq_eq_false_iff_ne.2 h
    go_enter Try.func47, Try.ntmps47
    go_wp2
    go_ret
    exact ⟨rfl, rfl⟩

theorem countI_le (xs : List Int) (x : Int) : countI xs x ≤ xs.length := by unfold countI; exact List.length_filter_le ..

set_option maxRecDepth 100000 in
set_option maxHeartbeats 2000000 in
theorem refIs_any (sv : Value) (xs : List Int) (w : World) (hr : Reads w sv (intsOf xs)) :
    Calls Try.prog 46 #[sv] w fun e w' => ∃ r : Bool, e = .returned (.bool r) ∧ (r = true ↔ IsPerm xs) ∧ w = w' := by
  obtain ⟨ao, cap, rfl, hcap, hm, hnil, hc⟩ := hr
  rw [intsOf_len] at *
  have hcm : cap ≤ 9223372036854775807 := by unfold maxLen at hm; omega
  obtain ⟨n, hn⟩ : ∃ n, xs.length = n := ⟨_, rfl⟩
  rw [hn] at hcap ⊢
  have HN := Lib.hid hn
  have HC := Lib.hid hc
  clear hc hnil hm hn
  go_enter Try.func46, Try.ntmps46
  go_wp2_with fail
  go_loopw [9] (fun iv wr => ∃ i : Nat, i ≤ n ∧ iv = .int .i64 i ∧ (∀ j, j < i → countI xs (j : Nat) = 1) ∧ w = wr) (fun iv _ => n - (intOf iv).toNat)
  case atStart => exact ⟨0, by omega, rfl, (fun j hj => by omega), rfl⟩
  case round =>
    obtain ⟨i, hi, rfl, hA, rfl⟩ := hrel
    have HA := Lib.hid hA
    clear hA
    by_cases hlt : i < n
    · go_wp2_with fail
      go_loopw [4, 14] (fun nv kv wr => ∃ k : Nat, k ≤ n ∧ kv = .int .i64 k ∧ nv = .int .i64 (countI (xs.take k) (i : Nat) : Nat) ∧ w = wr) (fun _ kv _ => n - (intOf kv).toNat)
      case atStart => exact ⟨0, by omega, rfl, by rw [List.take_zero]; rfl, rfl⟩
      case round =>
        obtain ⟨k, hk, rfl, rfl, rfl⟩ := hrel
        by_cases hkn : k < n
        · have hkx : k < xs.length := by rw [HN.out]; exact hkn
          obtain ⟨x, hx⟩ : ∃ x, xs[k] = x := ⟨_, rfl⟩
          rcases HC.out with hcc | ⟨ab, aof, rfl, hcc⟩
          · exfalso
            have : xs.length = 0 := by rw [← intsOf_len, hcc]; rfl
            omega
          have cz : w.cell? ⟨ab, aof + k, none⟩ = some (.int .i64 x) := hcc k (.int .i64 x) (by simp only [intsOf, List.getElem?_map, List.getElem?_eq_getElem hkx, hx]; rfl)
          have hct : countI (xs.take (k + 1)) (i : Nat) = countI (xs.take k) (i : Nat) + if x = (i : Nat) then 1 else 0 := by
            rw [List.take_succ_eq_append_getElem hkx, hx, countI_snoc]
          have hcl := countI_le (xs.take k) (i : Nat)
          rw [List.length_take] at hcl
          have HCT := Lib.hid hct
          obtain ⟨cn, hcn⟩ : ∃ cn, countI (xs.take k) (i : Nat) = cn := ⟨_, rfl⟩
          rw [hcn] at hcl HCT ⊢
          have hcl2 : cn ≤ k := by omega
          clear hcc hx hct hcn hcl
          by_cases hxi : x = (i : Int)
          · subst hxi
            have HCT2 : Hid (countI (xs.take (k + 1)) (i : Nat) = cn + 1) := by show _ = _; rw [HCT.out, if_pos rfl]
            go_wp2_with fail
            go_roundw
            case rel => exact ⟨k + 1, by omega, by go_num, by rw [HCT2.out]; go_num, by first | rfl | trivial⟩
            case measure => simp [intOf]; omega
          · have HCT2 : Hid (countI (xs.take (k + 1)) (i : Nat) = cn) := by show _ = _; rw [HCT.out, if_neg hxi]; rfl
            have dx : (x == (i : Int)) = false := beq_eq_false_iff_ne.2 hxi
            go_wp2_with fail
            go_roundw
            case rel => exact ⟨k + 1, by omega, by go_num, by rw [HCT2.out], by first | rfl | trivial⟩
            case measure => simp [intOf]; omega
        · obtain rfl : k = n := by omega
          have htk : xs.take k = xs := by rw [← HN.out]; exact List.take_length ..
          rw [htk]
          by_cases h1 : countI xs (i : Nat) = 1
          · have HA2 : Hid (∀ j, j < i + 1 → countI xs (j : Nat) = 1) := by
              intro j hj
              by_cases hji : j < i
              · exact HA.out j hji
              · obtain rfl : j = i := by omega
                exact h1
            rw [h1]
            clear h1 htk
            go_wp2_with fail
            go_roundw
            case rel => exact ⟨i + 1, by omega, by go_num, HA2.out, by first | rfl | trivial⟩
            case measure => simp [intOf]; omega
          · have HNP : Hid (¬ IsPerm xs) := fun h => h1 ((isPerm_iff xs).1 h i (by rw [HN.out]; exact hlt))
            have dx : (((countI xs (i : Nat) : Nat) : Int) != 1) = true := bne_iff_ne.2 (by omega)
            clear h1 htk
            generalize countI xs (i : Nat) = cn at dx ⊢
            go_wp2_with fail
            go_ret
            exact ⟨false, rfl, by simpa using HNP.out, rfl⟩
    · obtain rfl : i = n := by omega
      have HIP : Hid (IsPerm xs) := (isPerm_iff xs).2 (by rw [HN.out]; exact HA.out)
      go_wp2_with fail
      go_ret
      exact ⟨true, rfl, by simpa using HIP.out, rfl⟩

set_option maxRecDepth 100000 in
set_option maxHeartbeats 2000000 in
theorem refMates_any (sv : Value) (xs : List Int) (w : World) (hr : Reads w sv (intsOf xs)) (hl : xs.length ≤ 1000000) :
    Calls Try.prog 15 #[sv] w fun e w' => ∃ (r : Bool), e = .returned (.bool r) ∧ (r = true ↔ Mates xs) ∧ Keeps [] w w' := by
  have HIS := Lib.hid (refIs_any sv xs w hr)
  have HRK := Lib.hid (fun (W : World) (hk : Keeps [] w W) => hr.keep hk (fun g _ => by simp))
  obtain ⟨ao, cap, rfl, hcap, hm, hnil, hc⟩ := hr
  rw [intsOf_len] at *
  have hcm : cap ≤ 9223372036854775807 := by unfold maxLen at hm; omega
  obtain ⟨n, hn⟩ : ∃ n, xs.length = n := ⟨_, rfl⟩
  rw [hn] at hcap hl HIS HRK ⊢
  have HN := Lib.hid hn
  clear hc hnil hm hn
  go_enter Try.func15, Try.ntmps15
  go_wp2_with fail
  refine HIS.out.mono ?_
  rintro e w1 ⟨r, rfl, hr, rfl⟩
  cases r
  · have HNM : Hid (¬ Mates xs) := fun h => by have := hr.2 h.1; cases this
    go_wp2_with fail
    go_ret
    exact ⟨false, rfl, by simpa using HNM.out, Keeps.refl _ _⟩
  · have hip : IsPerm xs := hr.1 rfl
    by_cases hodd : n % 2 = 1
    · have HNM : Hid (¬ Mates xs) := fun h => by have := h.2.1; rw [HN.out] at this; omega
      have d1 : ((n : Int) % 2 == 1) = true := beq_iff_eq.2 (by omega)
      clear hodd hr hip HIS
      go_wp2_with fail
      go_ret
      exact ⟨false, rfl, by simpa using HNM.out, Keeps.refl _ _⟩
    · have d1 : ((n : Int) % 2 == 1) = false := beq_eq_false_iff_ne.2 (by omega)
      have HX : Hid (∀ i (hi : i < n), 0 ≤ xs.getD i 0 ∧ xs.getD i 0 < (n : Int) ∧ xs[i]? = some (xs.getD i 0)) := by
        intro i hi
        have h1 : i < xs.length := by rw [HN.out]; exact hi
        have h2 : xs.getD i 0 = xs[i] := by rw [List.getD_eq_getElem?_getD, List.getElem?_eq_getElem h1]; rfl
        have h3 := hip.1 _ (List.getElem_mem h1)
        rw [HN.out] at h3
        exact ⟨by rw [h2]; exact h3.1, by rw [h2]; exact h3.2, by rw [h2]; exact List.getElem?_eq_getElem h1⟩
      have HIP := Lib.hid hip
      clear hip hr HIS
      go_wp2_with fail
      go_loopw [15] (fun iv wr => ∃ i : Nat, i ≤ n ∧ iv = .int .i64 i ∧ (∀ d, d < i → xs.getD (mateI (d : Nat)).toNat 0 = mateI (xs.getD d 0)) ∧ Keeps [] w wr) (fun iv _ => n - (intOf iv).toNat)
      case atStart => exact ⟨0, by omega, rfl, (fun j hj => by omega), Keeps.refl _ _⟩
      case round =>
        obtain ⟨i, hi, rfl, hA, hK⟩ := hrel
        have HA := Lib.hid hA
        have HK := Lib.hid hK
        clear hA hK
        by_cases hlt : i < n
        · obtain ⟨x0, x1, x2⟩ := HX.out i hlt
          have hmi : 0 ≤ mateI (i : Nat) ∧ mateI (i : Nat) < (n : Int) := by unfold mateI; split <;> omega
          obtain ⟨M, hM⟩ : ∃ M : Nat, mateI (i : Nat) = M := ⟨(mateI (i : Nat)).toNat, by omega⟩
          have hMn : M < n := by omega
          obtain ⟨y0, y1, y2⟩ := HX.out M hMn
          obtain ⟨x, hx⟩ : ∃ x, xs.getD i 0 = x := ⟨_, rfl⟩
          obtain ⟨y, hy⟩ : ∃ y, xs.getD M 0 = y := ⟨_, rfl⟩
          rw [hx] at x0 x1 x2
          rw [hy] at y0 y1 y2
          obtain ⟨ao', cp, he, _, _, _, hcc⟩ := HRK.out wr HK.out
          simp only [Value.slice.injEq] at he
          obtain ⟨rfl, hxx, rfl⟩ := he
          clear hxx
          rcases hcc with hcc | ⟨ab, aof, rfl, hcc⟩
          · exfalso
            have : xs.length = 0 := by rw [← intsOf_len, hcc]; rfl
            have := HN.out; omega
          have ci : wr.cell? ⟨ab, aof + i, none⟩ = some (.int .i64 x) := hcc i (.int .i64 x) (by simp only [intsOf, List.getElem?_map, x2]; rfl)
          have cM : wr.cell? ⟨ab, aof + M, none⟩ = some (.int .i64 y) := hcc M (.int .i64 y) (by simp only [intsOf, List.getElem?_map, y2]; rfl)
          have HM1 : Hid (∀ t, Calls Try.prog 47 #[.int .i64 (i : Nat)] (wr.drewN t) fun e w' => e = .returned (.int .i64 M) ∧ w' = wr.drewN t) := fun t => by
            rw [← hM]
            exact (mate6_any (i : Nat) (by omega) (by omega) _).mono fun _ _ ⟨h1, h2⟩ => ⟨h1, h2.symm⟩
          have HM2 : Hid (∀ t, Calls Try.prog 47 #[.int .i64 x] (wr.drewN t) fun e w' => e = .returned (.int .i64 (mateI x)) ∧ w' = wr.drewN t) := fun t =>
            (mate6_any x x0 (by omega) _).mono fun _ _ ⟨h1, h2⟩ => ⟨h1, h2.symm⟩
          have HXY := Lib.hid (And.intro hx (And.intro hy hM))
          clear hcc hx hy hM hmi x2 y2
          go_wp2_with fail
          go_quiet ((go_at_call 47; first | (with_reducible exact Calls.quiet_of_same (HM1.out _)) | (with_reducible exact Calls.quiet_of_same (HM2.out _))))
          have HK2 : Hid (Keeps [] w (wr.drewN nq)) := HK.out.trans (Keeps.drewN wr nq) (by simp)
          clear ci cM HM1 HM2 HK
          generalize wr.drewN nq = W2 at HK2 ⊢
          by_cases hyx : y = mateI x
          · have d2 : (y != mateI x) = false := by rw [hyx]; simp
            have HA2 : Hid (∀ d, d < i + 1 → xs.getD (mateI (d : Nat)).toNat 0 = mateI (xs.getD d 0)) := by
              intro d hd
              by_cases hdi : d < i
              · exact HA.out d hdi
              · obtain rfl : d = i := by omega
                rw [HXY.out.2.2, Int.toNat_natCast, HXY.out.2.1, HXY.out.1]; exact hyx
            clear hyx
            go_wp2_with fail
            go_roundw
            case rel => exact ⟨i + 1, by omega, by go_num, HA2.out, HK2.out⟩
            case measure => simp [intOf]; omega
          · have d2 : (y != mateI x) = true := by simpa using hyx
            have HNM : Hid (¬ Mates xs) := fun h => by
              have := h.2.2 i (by rw [HN.out]; exact hlt)
              rw [HXY.out.2.2, Int.toNat_natCast, HXY.out.2.1, HXY.out.1] at this
              exact hyx this
            clear hyx
            go_wp2_with fail
            go_ret
            exact ⟨false, rfl, by simpa using HNM.out, HK2.out⟩
        · obtain rfl : i = n := by omega
          have HMT : Hid (Mates xs) := ⟨HIP.out, by rw [HN.out]; omega, fun d hd => HA.out d (by rw [HN.out] at hd; exact hd)⟩
          go_wp2_with fail
          go_ret
          exact ⟨true, rfl, by simpa using HMT.out, HK.out⟩
end Go.Proofs.Ytoipbbobkllddaa

