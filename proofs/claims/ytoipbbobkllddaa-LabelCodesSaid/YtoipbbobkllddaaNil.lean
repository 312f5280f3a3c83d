/- The contracts at a nil vector. -/
import Derived.Test.YtoipbbobkllddaaRefNum
namespace Go.Proofs.Ytoipbbobkllddaa
open Go.RowKit

set_option maxRecDepth 100000 in
theorem vecAt_nil (w : World) : Calls Try.prog 50 #[.pointer none, .int .i64 0] w fun e w' => e = .returned (.int .i64 (-1)) ∧ w = w' := by
  have hl := Lib.hid (fun w => vecLen_nil w)
  go_enter Try.func50, Try.ntmps50
  go_wp2_with fail
  refine (hl.out _).mono ?_
  rintro e w' ⟨rfl, rfl⟩
  go_wp2
  go_ret
  exact ⟨rfl, rfl⟩

set_option maxRecDepth 100000 in
theorem text_nil {w0 w : World} {os : List Thing} (h : St w0 w os) : Calls Try.prog 18 #[.pointer none] w fun e w' => e = .returned (.string (strOf [])) ∧ St w0 w' os := by
  have H := Lib.hid h
  have hl := Lib.hid (fun w => vecLen_nil w)
  clear h
  go_enter Try.func18, Try.ntmps18
  go_wp2_with fail
  have S1 : Hid (St w0 (w.alloc (.cells #[.pointer none, .slice none 0 0] 91)) (cellT w.heap.size (bldObj (.pointer none) (.slice none 0 0)) :: os)) := H.out.newCell _
  refine (hl.out _).mono ?_
  rintro e w' ⟨rfl, rfl⟩
  go_wp2_with fail
  obtain ⟨g, hg⟩ : ∃ g, w.heap.size = g := ⟨_, rfl⟩
  rw [hg] at S1 ⊢
  clear hg H
  go_loopw [7] (fun i wr => i = .int .i64 0 ∧ St w0 wr (cellT g (bldObj (.pointer none) (.slice none 0 0)) :: os)) (fun i _ => 0)
  case atStart => exact ⟨rfl, S1.out⟩
  case round =>
    obtain ⟨rfl, hS⟩ := hrel
    have HS := Lib.hid hS
    clear hS S1
    go_wp2_with fail
    refine (bldString_nil HS.out).mono ?_
    rintro e w2 ⟨rfl, h2⟩
    have H2 := Lib.hid h2
    go_wp2
    go_ret
    exact ⟨rfl, H2.out⟩

set_option maxRecDepth 100000 in
theorem same_nil {w0 w : World} {os : List Thing} {b' : Nat} {v' : Value} {l' : List Bool} (h : St w0 w os) (hm' : vecT b' v' l' ∈ os) :
    Calls Try.prog 31 #[.pointer none, .pointer (some ⟨b', 0, none⟩)] w fun e w' => e = .returned (.bool (decide (l' = []))) ∧ ∃ m, w' = w.drewN m := by
  have HA : Hid (∀ n, Calls Try.prog 21 #[.pointer none] (w.drewN n) fun e w' => e = .returned (.int .i64 0) ∧ w' = w.drewN n) := fun n => (vecLen_nil (w.drewN n)).mono fun _ _ ⟨h1, h2⟩ => ⟨h1, h2.symm⟩
  have HB : Hid (∀ n, Calls Try.prog 21 #[.pointer (some ⟨b', 0, none⟩)] (w.drewN n) fun e w' => e = .returned (.int .i64 l'.length) ∧ w' = w.drewN n) := fun n => (vecLen_any (h.drewN n) hm').mono fun _ _ ⟨h1, h2⟩ => ⟨h1, h2.symm⟩
  by_cases h0' : l'.length = 0
  · have HT : Hid (decide (l' = []) = true) := decide_eq_true (List.length_eq_zero_iff.1 h0')
    rw [h0'] at HB
    clear h0' h hm'
    go_enter Try.func31, Try.ntmps31
    go_wp2_with fail
    go_quiet ((go_at_call 21; first | (with_reducible exact Calls.quiet_of_same (HA.out _)) | (with_reducible exact Calls.quiet_of_same (HB.out _))))
    go_wp2
    go_ret
    exact ⟨by rw [HT.out]; rfl, _, rfl⟩
  · have HF : Hid (decide (l' = []) = false) := decide_eq_false (fun he => h0' (by rw [he]; rfl))
    clear h hm'
    generalize l'.length = n' at HB h0'
    have hz : (0 == n') = false := beq_eq_false_iff_ne.2 (by omega)
    have hz2 : ((0 : Int) == (n' : Int)) = false := beq_eq_false_iff_ne.2 (by omega)
    go_enter Try.func31, Try.ntmps31
    go_wp2_with fail
    go_quiet ((go_at_call 21; first | (with_reducible exact Calls.quiet_of_same (HA.out _)) | (with_reducible exact Calls.quiet_of_same (HB.out _))))
    go_wp2
    go_ret
    exact ⟨by rw [HF.out]; rfl, _, rfl⟩

end Go.Proofs.Ytoipbbobkllddaa

