/- The contracts at a nil vector. -/
import Derived.Test.YtpepihciaendlaaRefNum
namespace Go.Proofs.Ytpepihciaendlaa
open Go.RowKit

theorem ones_nil (w : World) : Calls Try.prog 33 #[.pointer none] w fun e w' => e = .returned (.int .i64 0) ∧ w = w' := by
  go_enter Try.func33, Try.ntmps33
  go_wp2
  go_ret
  exact ⟨rfl, rfl⟩

theorem vecAt_nil (w : World) : Calls Try.prog 35 #[.pointer none, .int .i64 0] w fun e w' => e = .returned (.int .i64 (-1)) ∧ w = w' := by
  have hl := Lib.hid (fun w => vecLen_nil w)
  go_enter Try.func35, Try.ntmps35
  go_wp2_with fail
  refine (hl.out _).mono ?_
  rintro e w' ⟨rfl, rfl⟩
  go_wp2
  go_ret
  exact ⟨rfl, rfl⟩

theorem cut_nil (a b : Int) (w : World) : Calls Try.prog 30 #[.pointer none, .int .i64 a, .int .i64 b] w fun e w' => e = .returned (.tuple #[.pointer none, .int .i64 2]) ∧ w = w' := by
  go_enter Try.func30, Try.ntmps30
  go_wp2
  go_ret2
  exact ⟨rfl, rfl⟩

theorem bytes_nil {w0 w : World} {os : List Thing} (h : St w0 w os) : Calls Try.prog 31 #[.pointer none] w fun e w' => (∃ g, e = .returned (.slice (some ⟨g, 0, none⟩) 0 0)) ∧ St w0 w' os := by
  have H := Lib.hid h
  have hl := Lib.hid (fun w => vecLen_nil w)
  have hmk := run_make_row' (P := Try.prog) 22 5 (.int .u8 0) 1 Try.underlying22 info_u8 rfl .i64 .i64 0 (by omega) (by omega)
  rw [show ((0 : Nat) : Int) = 0 from rfl] at hmk
  have S1 : Hid (St w0 (w.alloc (.cells (madeCells #[.int .u8 0] 0) 5)) os) := (H.out.newCell _).tail
  clear h
  go_enter Try.func31, Try.ntmps31
  go_wp2_with fail
  refine (hl.out _).mono ?_
  rintro e w' ⟨rfl, rfl⟩
  go_wp2_with fail
  go_loopw [13] (fun i wr => i = .int .i64 0 ∧ St w0 wr os) (fun i _ => 0)
  case atStart => exact ⟨rfl, S1.out⟩
  case round =>
    obtain ⟨rfl, hS⟩ := hrel
    have HS := Lib.hid hS
    clear hS S1 H
    go_wp2
    go_ret
    exact ⟨⟨_, rfl⟩, HS.out⟩

theorem text_nil {w0 w : World} {os : List Thing} (h : St w0 w os) : Calls Try.prog 34 #[.pointer none] w fun e w' => e = .returned (.string (strOf [])) ∧ St w0 w' os := by
  have H := Lib.hid h
  have hl := Lib.hid (fun w => vecLen_nil w)
  clear h
  go_enter Try.func34, Try.ntmps34
  go_wp2_with fail
  have S1 : Hid (St w0 (w.alloc (.cells #[.pointer none, .slice none 0 0] 78)) (cellT w.heap.size (bldObj (.pointer none) (.slice none 0 0)) :: os)) := H.out.newCell _
  refine (hl.out _).mono ?_
  rintro e w' ⟨rfl, rfl⟩
  go_wp2_with fail
  obtain ⟨g, hg⟩ : ∃ g, w.heap.size = g := ⟨_, rfl⟩
  rw [hg] at S1 ⊢
  clear hg H
  go_loopw [7] (fun i wr => i = .int .i64 0 ∧ St w0 wr (cellT g (bldObj (.pointer none) (.slice none 0 0)) :: os)) (fun i _ => 0)
  case atStart => exact ⟨rfl, S1.out⟩
  case round =>
    obtain ⟨rfl, hS⟩ := hrel
    have HS := Lib.hid hS
    clear hS S1
    go_wp2_with fail
    refine (bldString_nil HS.out).mono ?_
    rintro e w2 ⟨rfl, h2⟩
    have H2 := Lib.hid h2
    go_wp2
    go_ret
    exact ⟨rfl, H2.out⟩

theorem same_nil {w0 w : World} {os : List Thing} {b' : Nat} {v' : Value} {l' : List Bool} (h : St w0 w os) (hm' : vecT b' v' l' ∈ os) :
    Calls Try.prog 21 #[.pointer none, .pointer (some ⟨b', 0, none⟩)] w fun e w' => e = .returned (.bool (decide (l' = []))) ∧ ∃ m, w' = w.drewN m := by
  have HA : Hid (∀ n, Calls Try.prog 22 #[.pointer none] (w.drewN n) fun e w' => e = .returned (.int .i64 0) ∧ w' = w.drewN n) := fun n => (vecLen_nil (w.drewN n)).mono fun _ _ ⟨h1, h2⟩ => ⟨h1, h2.symm⟩
  have HB : Hid (∀ n, Calls Try.prog 22 #[.pointer (some ⟨b', 0, none⟩)] (w.drewN n) fun e w' => e = .returned (.int .i64 l'.length) ∧ w' = w.drewN n) := fun n => (vecLen_any (h.drewN n) hm').mono fun _ _ ⟨h1, h2⟩ => ⟨h1, h2.symm⟩
  by_cases h0' : l'.length = 0
  · have HT : Hid (decide (l' = []) = true) := decide_eq_true (List.length_eq_zero_iff.1 h0')
    rw [h0'] at HB
    clear h0' h hm'
    go_enter Try.func21, Try.ntmps21
    go_wp2_with fail
    go_quiet ((go_at_call 22; first | (with_reducible exact Calls.quiet_of_same (HA.out _)) | (with_reducible exact Calls.quiet_of_same (HB.out _))))
    go_wp2
    go_ret
    exact ⟨by rw [HT.out]; rfl, _, rfl⟩
  · have HF : Hid (decide (l' = []) = false) := decide_eq_false (fun he => h0' (by rw [he]; rfl))
    clear h hm'
    generalize l'.length = n' at HB h0'
    have hz : (0 == n') = false := beq_eq_false_iff_ne.2 (by omega)
    have hz2 : ((0 : Int) == (n' : Int)) = false := beq_eq_false_iff_ne.2 (by omega)
    go_enter Try.func21, Try.ntmps21
    go_wp2_with fail
    go_quiet ((go_at_call 22; first | (with_reducible exact Calls.quiet_of_same (HA.out _)) | (with_reducible exact Calls.quiet_of_same (HB.out _))))
    go_wp2
    go_ret
    exact ⟨by rw [HF.out]; rfl, _, rfl⟩

set_option maxHeartbeats 1000000 in
theorem join_nil {w0 w : World} {os : List Thing} {b : Nat} {v : Value} {l : List Bool} (h : St w0 w os) (hm : vecT b v l ∈ os) (hn : l.length < 1099511627776) :
    Calls Try.prog 28 #[.pointer none, .pointer (some ⟨b, 0, none⟩)] w fun e w' => e = .returned (.tuple #[]) ∧ St w0 w' os := by
  have H := Lib.hid h
  have HM := Lib.hid hm
  have hlen := Lib.hid (vecLen_any h hm)
  clear h hm
  go_enter Try.func28, Try.ntmps28
  go_wp2_with fail
  refine hlen.out.mono ?_
  rintro e w' ⟨rfl, rfl⟩
  go_wp2_with fail
  go_loopw [7] (fun i wr => ∃ k : Nat, k ≤ l.length ∧ i = .int .i64 k ∧ St w0 wr os) (fun i _ => l.length - (intOf i).toNat)
  case atStart => exact ⟨0, by omega, rfl, H.out⟩
  case round =>
    obtain ⟨k, hk, rfl, hS⟩ := hrel
    clear H
    have HS := Lib.hid hS
    clear hS
    by_cases hlt : k < l.length
    · go_wp2_with fail
      refine (vecAt_in HS.out HM.out k hlt).mono ?_
      rintro e w1 ⟨rfl, rfl⟩
      generalize (l.getD k false).toNat = t
      go_wp2_with fail
      refine (vecAdd_nil _ _).mono ?_
      rintro e w2 ⟨rfl, rfl⟩
      have S1 := Lib.hid (HS.out.newCell (.cells #[.int .i64 (t : Int)] 3)).tail
      go_wp2
      go_roundw
      case rel => exact ⟨k + 1, by omega, by go_num, S1.out⟩
      case measure => simp [intOf]; omega
    · have hkl : k = l.length := by omega
      subst hkl
      go_wp2
      go_end0
      exact ⟨rfl, HS.out⟩
end Go.Proofs.Ytpepihciaendlaa

