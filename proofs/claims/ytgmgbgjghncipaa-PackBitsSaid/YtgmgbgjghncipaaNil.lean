/- The contracts at a nil vector. -/
import Derived.Test.YtgmgbgjghncipaaRefNum
namespace Go.Proofs.Ytgmgbgjghncipaa
open Go.RowKit

theorem vecAt_nil (w : World) : Calls Try.prog 44 #[.pointer none, .int .i64 0] w fun e w' => e = .returned (.int .i64 (-1)) ∧ w = w' := by
  have hl := Lib.hid (fun w => vecLen_nil w)
  go_enter Try.func44, Try.ntmps44
  go_wp2_with fail
  refine (hl.out _).mono ?_
  rintro e w' ⟨rfl, rfl⟩
  go_wp2
  go_ret
  exact ⟨rfl, rfl⟩

theorem bytes_nil {w0 w : World} {os : List Thing} (h : St w0 w os) : Calls Try.prog 20 #[.pointer none] w fun e w' => (∃ g, e = .returned (.slice (some ⟨g, 0, none⟩) 0 0)) ∧ St w0 w' os := by
  have H := Lib.hid h
  have hl := Lib.hid (fun w => vecLen_nil w)
  have hmk := run_make_row' (P := Try.prog) 23 5 (.int .u8 0) 1 Try.underlying23 info_u8 rfl .i64 .i64 0 (by omega) (by omega)
  rw [show ((0 : Nat) : Int) = 0 from rfl] at hmk
  have S1 : Hid (St w0 (w.alloc (.cells (madeCells #[.int .u8 0] 0) 5)) os) := (H.out.newCell _).tail
  clear h
  go_enter Try.func20, Try.ntmps20
  go_wp2_with fail
  refine (hl.out _).mono ?_
  rintro e w' ⟨rfl, rfl⟩
  go_wp2_with fail
  go_loopw [13] (fun i wr => i = .int .i64 0 ∧ St w0 wr os) (fun i _ => 0)
  case atStart => exact ⟨rfl, S1.out⟩
  case round =>
    obtain ⟨rfl, hS⟩ := hrel
    have HS := Lib.hid hS
    clear hS S1 H
    go_wp2
    go_ret
    exact ⟨⟨_, rfl⟩, HS.out⟩

theorem same_nil {w0 w : World} {os : List Thing} {b' : Nat} {v' : Value} {l' : List Bool} (h : St w0 w os) (hm' : vecT b' v' l' ∈ os) :
    Calls Try.prog 21 #[.pointer none, .pointer (some ⟨b', 0, none⟩)] w fun e w' => e = .returned (.bool (decide (l' = []))) ∧ ∃ m, w' = w.drewN m := by
  have HA : Hid (∀ n, Calls Try.prog 17 #[.pointer none] (w.drewN n) fun e w' => e = .returned (.int .i64 0) ∧ w' = w.drewN n) := fun n => (vecLen_nil (w.drewN n)).mono fun _ _ ⟨h1, h2⟩ => ⟨h1, h2.symm⟩
  have HB : Hid (∀ n, Calls Try.prog 17 #[.pointer (some ⟨b', 0, none⟩)] (w.drewN n) fun e w' => e = .returned (.int .i64 l'.length) ∧ w' = w.drewN n) := fun n => (vecLen_any (h.drewN n) hm').mono fun _ _ ⟨h1, h2⟩ => ⟨h1, h2.symm⟩
  by_cases h0' : l'.length = 0
  · have HT : Hid (decide (l' = []) = true) := decide_eq_true (List.length_eq_zero_iff.1 h0')
    rw [h0'] at HB
    clear h0' h hm'
    go_enter Try.func21, Try.ntmps21
    go_wp2_with fail
    go_quiet ((go_at_call 17; first | (with_reducible exact Calls.quiet_of_same (HA.out _)) | (with_reducible exact Calls.quiet_of_same (HB.out _))))
    go_wp2
    go_ret
    exact ⟨by rw [HT.out]; rfl, _, rfl⟩
  · have HF : Hid (decide (l' = []) = false) := decide_eq_false (fun he => h0' (by rw [he]; rfl))
    clear h hm'
    generalize l'.length = n' at HB h0'
    have hz : (0 == n') = false := beq_eq_false_iff_ne.2 (by omega)
    have hz2 : ((0 : Int) == (n' : Int)) = false := beq_eq_false_iff_ne.2 (by omega)
    go_enter Try.func21, Try.ntmps21
    go_wp2_with fail
    go_quiet ((go_at_call 17; first | (with_reducible exact Calls.quiet_of_same (HA.out _)) | (with_reducible exact Calls.quiet_of_same (HB.out _))))
    go_wp2
    go_ret
    exact ⟨by rw [HF.out]; rfl, _, rfl⟩

end Go.Proofs.Ytgmgbgjghncipaa

