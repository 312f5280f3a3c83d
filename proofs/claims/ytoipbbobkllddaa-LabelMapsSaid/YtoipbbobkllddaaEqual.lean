/- slices.Equal at words and at ints. -/
import Derived.Test.YtoipbbobkllddaaOf
import Derived.Deep.QuietTactic
import Derived.BigQuiet
namespace Go.Proofs.Ytoipbbobkllddaa
open Go.RowKit

set_option maxRecDepth 100000 in
set_option maxHeartbeats 1000000 in
theorem equalWords_any (u v : Value) (xs ys : List Int) (w : World) (hu : Reads w u (xs.map (Value.int .u64))) (hv : Reads w v (ys.map (Value.int .u64))) :
    Calls Try.prog 55 #[u, v] w fun e w' => e = .returned (.bool (decide (xs = ys))) ∧ ∃ m, w' = w.drewN m := by
  obtain ⟨a, c, rfl, hcap, hm, _, hc⟩ := hu
  obtain ⟨a', c', rfl, hcap', hm', _, hc'⟩ := hv
  rw [List.length_map] at hcap hcap' ⊢
  rw [List.length_map]
  by_cases hne : xs.length = ys.length
  · have HC := Lib.hid hc
    have HC' := Lib.hid hc'
    have HN := Lib.hid hne
    have hxl : xs.length ≤ 9223372036854775807 := by unfold maxLen at hm; omega
    clear hc hc' hm hm'
    rw [← hne]
    rw [← hne] at hcap'
    clear hne
    go_enter Try.func55, Try.ntmps55
    go_wp2_with fail
    go_loopw [13] (fun i wr => ∃ k m : Nat, k ≤ xs.length ∧ i = .int .i64 k ∧ xs.take k = ys.take k ∧ wr = w.drewN m) (fun i _ => xs.length - (intOf i).toNat)
    case atStart => exact ⟨0, 0, by omega, rfl, rfl, rfl⟩
    case round =>
      obtain ⟨k, m, hk, rfl, heq, rfl⟩ := hrel
      by_cases hlt : k < xs.length
      · rcases HC.out with h0 | ⟨b, off, rfl, h1⟩
        · have : xs = [] := by simpa using h0
          subst this; simp at hlt
        rcases HC'.out with h0 | ⟨b', off', rfl, h1'⟩
        · have : ys = [] := by simpa using h0
          have := HN.out
          subst ys
          simp at this
          subst this; simp at hlt
        have hlt' : k < ys.length := by rw [← HN.out]; exact hlt
        have cb : w.cell? ⟨b, off + k, none⟩ = some (.int .u64 xs[k]) := h1 k _ (by simp [hlt])
        have cb' : w.cell? ⟨b', off' + k, none⟩ = some (.int .u64 ys[k]) := h1' k _ (by simp [hlt'])
        have hx : xs.take (k + 1) = xs.take k ++ [xs[k]] := List.take_succ_eq_append_getElem hlt
        have hy : ys.take (k + 1) = ys.take k ++ [ys[k]] := List.take_succ_eq_append_getElem hlt'
        rw [heq] at hx
        have hbad : xs[k] ≠ ys[k] → xs ≠ ys := by
          intro h e; subst e; exact h rfl
        generalize xs[k] = x at cb hx hbad
        generalize ys[k] = y at cb' hy hbad
        have HX := Lib.hid hx
        have HY := Lib.hid hy
        have HB := Lib.hid hbad
        have HE := Lib.hid heq
        clear h1 h1' hx hy hbad heq hlt'
        by_cases hxy : x = y
        · subst hxy
          go_wp2_with fail
          go_quiet (fail)
          go_wp2
          go_roundw
          case rel => exact ⟨k + 1, _, by omega, by go_num, by rw [HX.out, HY.out], by first | rfl | exact World.drewN_drewN _ _ _⟩
          case measure => simp [intOf]; omega
        · have hxy' : (x != y) = true := by simp [hxy]
          have HF : Hid (decide (xs = ys) = false) := decide_eq_false (HB.out hxy)
          go_wp2_with fail
          go_quiet (fail)
          go_wp2
          go_ret
          exact ⟨by rw [HF.out]; rfl, _, by first | rfl | exact World.drewN_drewN _ _ _⟩
      · have hkl : k = xs.length := by omega
        have HT : Hid (decide (xs = ys) = true) := decide_eq_true (by
          have h1 := heq
          rw [hkl, List.take_length, HN.out, List.take_length] at h1
          exact h1)
        clear heq
        subst hkl
        go_wp2
        go_ret
        exact ⟨by rw [HT.out]; rfl, m, rfl⟩
  · have HF : Hid (decide (xs = ys) = false) := decide_eq_false (fun h => hne (by rw [h]))
    have hne' : ((xs.length : Int) != (ys.length : Int)) = true := by simp; omega
    clear hc hc' hm hm' hne
    go_enter Try.func55, Try.ntmps55
    go_wp2
    go_ret
    exact ⟨by rw [HF.out]; rfl, 0, rfl⟩


set_option maxRecDepth 100000 in
set_option maxHeartbeats 1000000 in
theorem equalInts_any (u v : Value) (xs ys : List Int) (w : World) (hu : Reads w u (xs.map (Value.int .i64))) (hv : Reads w v (ys.map (Value.int .i64))) :
    Calls Try.prog 29 #[u, v] w fun e w' => e = .returned (.bool (decide (xs = ys))) ∧ ∃ m, w' = w.drewN m := by
  obtain ⟨a, c, rfl, hcap, hm, _, hc⟩ := hu
  obtain ⟨a', c', rfl, hcap', hm', _, hc'⟩ := hv
  rw [List.length_map] at hcap hcap' ⊢
  rw [List.length_map]
  by_cases hne : xs.length = ys.length
  · have HC := Lib.hid hc
    have HC' := Lib.hid hc'
    have HN := Lib.hid hne
    have hxl : xs.length ≤ 9223372036854775807 := by unfold maxLen at hm; omega
    clear hc hc' hm hm'
    rw [← hne]
    rw [← hne] at hcap'
    clear hne
    go_enter Try.func29, Try.ntmps29
    go_wp2_with fail
    go_loopw [13] (fun i wr => ∃ k m : Nat, k ≤ xs.length ∧ i = .int .i64 k ∧ xs.take k = ys.take k ∧ wr = w.drewN m) (fun i _ => xs.length - (intOf i).toNat)
    case atStart => exact ⟨0, 0, by omega, rfl, rfl, rfl⟩
    case round =>
      obtain ⟨k, m, hk, rfl, heq, rfl⟩ := hrel
      by_cases hlt : k < xs.length
      · rcases HC.out with h0 | ⟨b, off, rfl, h1⟩
        · have : xs = [] := by simpa using h0
          subst this; simp at hlt
        rcases HC'.out with h0 | ⟨b', off', rfl, h1'⟩
        · have : ys = [] := by simpa using h0
          have := HN.out
          subst ys
          simp at this
          subst this; simp at hlt
        have hlt' : k < ys.length := by rw [← HN.out]; exact hlt
        have cb : w.cell? ⟨b, off + k, none⟩ = some (.int .i64 xs[k]) := h1 k _ (by simp [hlt])
        have cb' : w.cell? ⟨b', off' + k, none⟩ = some (.int .i64 ys[k]) := h1' k _ (by simp [hlt'])
        have hx : xs.take (k + 1) = xs.take k ++ [xs[k]] := List.take_succ_eq_append_getElem hlt
        have hy : ys.take (k + 1) = ys.take k ++ [ys[k]] := List.take_succ_eq_append_getElem hlt'
        rw [heq] at hx
        have hbad : xs[k] ≠ ys[k] → xs ≠ ys := by
          intro h e; subst e; exact h rfl
        generalize xs[k] = x at cb hx hbad
        generalize ys[k] = y at cb' hy hbad
        have HX := Lib.hid hx
        have HY := Lib.hid hy
        have HB := Lib.hid hbad
        have HE := Lib.hid heq
        clear h1 h1' hx hy hbad heq hlt'
        by_cases hxy : x = y
        · subst hxy
          go_wp2_with fail
          go_quiet (fail)
          go_wp2
          go_roundw
          case rel => exact ⟨k + 1, _, by omega, by go_num, by rw [HX.out, HY.out], by first | rfl | exact World.drewN_drewN _ _ _⟩
          case measure => simp [intOf]; omega
        · have hxy' : (x != y) = true := by simp [hxy]
          have HF : Hid (decide (xs = ys) = false) := decide_eq_false (HB.out hxy)
          go_wp2_with fail
          go_quiet (fail)
          go_wp2
          go_ret
          exact ⟨by rw [HF.out]; rfl, _, by first | rfl | exact World.drewN_drewN _ _ _⟩
      · have hkl : k = xs.length := by omega
        have HT : Hid (decide (xs = ys) = true) := decide_eq_true (by
          have h1 := heq
          rw [hkl, List.take_length, HN.out, List.take_length] at h1
          exact h1)
        clear heq
        subst hkl
        go_wp2
        go_ret
        exact ⟨by rw [HT.out]; rfl, m, rfl⟩
  · have HF : Hid (decide (xs = ys) = false) := decide_eq_false (fun h => hne (by rw [h]))
    have hne' : ((xs.length : Int) != (ys.length : Int)) = true := by simp; omega
    clear hc hc' hm hm' hne
    go_enter Try.func29, Try.ntmps29
    go_wp2
    go_ret
    exact ⟨by rw [HF.out]; rfl, 0, rfl⟩

end Go.Proofs.Ytoipbbobkllddaa

