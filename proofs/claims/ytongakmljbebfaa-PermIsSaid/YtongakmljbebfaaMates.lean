/- The document's Is, Mate and Mates. -/
import Derived.Test.YtongakmljbebfaaLabelP
import Derived.Test.YtongakmljbebfaaSame
import Derived.WalkMore
namespace Go.Proofs.Ytongakmljbebfaa
open Go.RowKit

theorem countI_le (xs : List Int) (x : Int) : countI xs x ≤ xs.length := by unfold countI; exact List.length_filter_le ..

set_option maxRecDepth 100000 in
set_option maxHeartbeats 2000000 in
theorem refIs_any (sv : Value) (xs : List Int) (w : World) (hr : Reads w sv (intsOf xs)) :
    Calls Try.prog 23 #[sv] w fun e w' => ∃ r : Bool, e = .returned (.bool r) ∧ (r = true ↔ IsPerm xs) ∧ w = w' := by
  obtain ⟨ao, cap, rfl, hcap, hm, hnil, hc⟩ := hr
  rw [intsOf_len] at *
  have hcm : cap ≤ 9223372036854775807 := by unfold maxLen at hm; omega
  obtain ⟨n, hn⟩ : ∃ n, xs.length = n := ⟨_, rfl⟩
  rw [hn] at hcap ⊢
  have HN := Lib.hid hn
  have HC := Lib.hid hc
  clear hc hnil hm hn
  go_enter Try.func23, Try.ntmps23
  go_wp2_with fail
  go_loopw [9] (fun iv wr => ∃ i : Nat, i ≤ n ∧ iv = .int .i64 i ∧ (∀ j, j < i → countI xs (j : Nat) = 1) ∧ w = wr) (fun iv _ => n - (intOf iv).toNat)
  case atStart => exact ⟨0, by omega, rfl, (fun j hj => by omega), rfl⟩
  case round =>
    obtain ⟨i, hi, rfl, hA, rfl⟩ := hrel
    have HA := Lib.hid hA
    clear hA
    by_cases hlt : i < n
    · go_wp2_with fail
      go_loopw [4, 14] (fun nv kv wr => ∃ k : Nat, k ≤ n ∧ kv = .int .i64 k ∧ nv = .int .i64 (countI (xs.take k) (i : Nat) : Nat) ∧ w = wr) (fun _ kv _ => n - (intOf kv).toNat)
      case atStart => exact ⟨0, by omega, rfl, by rw [List.take_zero]; rfl, rfl⟩
      case round =>
        obtain ⟨k, hk, rfl, rfl, rfl⟩ := hrel
        by_cases hkn : k < n
        · have hkx : k < xs.length := by rw [HN.out]; exact hkn
          obtain ⟨x, hx⟩ : ∃ x, xs[k] = x := ⟨_, rfl⟩
          rcases HC.out with hcc | ⟨ab, aof, rfl, hcc⟩
          · exfalso
            have : xs.length = 0 := by rw [← intsOf_len, hcc]; rfl
            omega
          have cz : w.cell? ⟨ab, aof + k, none⟩ = some (.int .i64 x) := hcc k (.int .i64 x) (by simp only [intsOf, List.getElem?_map, List.getElem?_eq_getElem hkx, hx]; rfl)
          have hct : countI (xs.take (k + 1)) (i : Nat) = countI (xs.take k) (i : Nat) + if x = (i : Nat) then 1 else 0 := by
            rw [List.take_succ_eq_append_getElem hkx, hx, countI_snoc]
          have hcl := countI_le (xs.take k) (i : Nat)
          rw [List.length_take] at hcl
          have HCT := Lib.hid hct
          obtain ⟨cn, hcn⟩ : ∃ cn, countI (xs.take k) (i : Nat) = cn := ⟨_, rfl⟩
          rw [hcn] at hcl HCT ⊢
          have hcl2 : cn ≤ k := by omega
          clear hcc hx hct hcn hcl
          by_cases hxi : x = (i : Int)
          · subst hxi
            have HCT2 : Hid (countI (xs.take (k + 1)) (i : Nat) = cn + 1) := by show _ = _; rw [HCT.out, if_pos rfl]
            go_wp2_with fail
            go_roundw
            case rel => exact ⟨k + 1, by omega, by go_num, by rw [HCT2.out]; go_num, by first | rfl | trivial⟩
            case measure => simp [intOf]; omega
          · have HCT2 : Hid (countI (xs.take (k + 1)) (i : Nat) = cn) := by show _ = _; rw [HCT.out, if_neg hxi]; rfl
            have dx : (x == (i : Int)) = false := beq_eq_false_iff_ne.2 hxi
            go_wp2_with fail
            go_roundw
            case rel => exact ⟨k + 1, by omega, by go_num, by rw [HCT2.out], by first | rfl | trivial⟩
            case measure => simp [intOf]; omega
        · obtain rfl : k = n := by omega
          have htk : xs.take k = xs := by rw [← HN.out]; exact List.take_length ..
          rw [htk]
          by_cases h1 : countI xs (i : Nat) = 1
          · have HA2 : Hid (∀ j, j < i + 1 → countI xs (j : Nat) = 1) := by
              intro j hj
              by_cases hji : j < i
              · exact HA.out j hji
              · obtain rfl : j = i := by omega
                exact h1
            rw [h1]
            clear h1 htk
            go_wp2_with fail
            go_roundw
            case rel => exact ⟨i + 1, by omega, by go_num, HA2.out, by first | rfl | trivial⟩
            case measure => simp [intOf]; omega
          · have HNP : Hid (¬ IsPerm xs) := fun h => h1 ((isPerm_iff xs).1 h i (by rw [HN.out]; exact hlt))
            have dx : (((countI xs (i : Nat) : Nat) : Int) != 1) = true := bne_iff_ne.2 (by omega)
            clear h1 htk
            generalize countI xs (i : Nat) = cn at dx ⊢
            go_wp2_with fail
            go_ret
            exact ⟨false, rfl, by simpa using HNP.out, rfl⟩
    · obtain rfl : i = n := by omega
      have HIP : Hid (IsPerm xs) := (isPerm_iff xs).2 (by rw [HN.out]; exact HA.out)
      go_wp2_with fail
      go_ret
      exact ⟨true, rfl, by simpa using HIP.out, rfl⟩

end Go.Proofs.Ytongakmljbebfaa

