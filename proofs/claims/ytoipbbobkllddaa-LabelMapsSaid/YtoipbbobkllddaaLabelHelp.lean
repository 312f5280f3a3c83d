/- What the walks of label's laws share. -/
import Derived.Test.YtoipbbobkllddaaLabel
import Derived.Test.YtoipbbobkllddaaMates
import Derived.Test.YtoipbbobkllddaaText
import Derived.Test.YtoipbbobkllddaaReader
namespace Go.Proofs.Ytoipbbobkllddaa
open Go.RowKit

theorem isPerm_nil : IsPerm [] := ⟨by simp, by simp⟩

theorem labSize_0 (w : World) : Calls Try.prog 22 #[.int .i64 0] w fun e w' => e = .returned (.int .i64 0) ∧ w = w' := by
  have HW : Hid (Calls Try.prog 9 #[.int .i64 0] w fun e w' => e = .returned (.int .i64 0) ∧ w = w') := width_any 0 (by decide) (by decide) w
  go_enter Try.func22, Try.ntmps22
  go_wp2_with fail
  refine HW.out.mono ?_
  rintro e w1 ⟨rfl, rfl⟩
  go_wp2
  go_ret
  exact ⟨rfl, rfl⟩

set_option maxRecDepth 100000 in
set_option maxHeartbeats 1000000 in
theorem labDec_nil {w0 w : World} {os : List Thing} (h : St w0 w os) : Calls Try.prog 13 #[.pointer none, .int .i64 0] w fun e w' => ∃ p v, e = .returned (.tuple #[.pointer (some ⟨p, 0, none⟩), .int .i64 0]) ∧ St w0 w' (cellT p (permObj v) :: rowT 3 v (intsOf []) :: os) := by
  have H := Lib.hid h
  have HP : Hid (Calls Try.prog 11 #[.slice none 0 0] w fun e w' => PermOut w0 os [] e w') := permOf_any h (.slice none 0 0) [] (by decide) (fun w' _ _ => Reads.nil w')
  clear h
  go_enter Try.func13, Try.ntmps13
  go_wp2_with fail
  refine (vecLen_nil w).mono ?_
  rintro e w1 ⟨rfl, rfl⟩
  go_wp2_with fail
  refine (labSize_0 w).mono ?_
  rintro e w1 ⟨rfl, rfl⟩
  go_wp2_with fail
  refine (read_nil w).mono ?_
  rintro e w1 ⟨rfl, rfl⟩
  go_wp2_with fail
  go_loopw [7, 29] (fun lv iv wr => lv = .slice none 0 0 ∧ iv = .int .i64 0 ∧ w = wr) (fun _ _ _ => 0)
  case atStart => exact ⟨rfl, rfl, rfl⟩
  case round =>
    obtain ⟨rfl, rfl, rfl⟩ := hrel
    go_wp2_with fail
    refine HP.out.mono ?_
    rintro e w2 (⟨_, p, v, rfl, hS⟩ | ⟨hn, _⟩)
    · have HS := Lib.hid hS
      go_wp2_with fail
      go_ret2
      exact ⟨p, v, rfl, HS.out⟩
    · exact absurd isPerm_nil hn

theorem isPerm_2310 : IsPerm [2, 3, 1, 0] := by unfold IsPerm; decide
theorem matesTo_2310 : MatesTo [2, 3, 1, 0] 2 := by
  intro j hj
  have : j = 0 ∨ j = 1 := by omega
  rcases this with rfl | rfl <;> rfl
theorem label_2310 : labelB [2, 3, 1, 0] 2 2 = [true, false, false, true] := by rfl

set_option maxRecDepth 100000 in
set_option maxHeartbeats 1000000 in
theorem awake20_any {w0 w : World} {os : List Thing} (h : St w0 w os) : Calls Try.prog 8 #[] w fun e w' => e = .returned (.bool true) ∧ St w0 w' os := by
  have hrow := World.ownsRow_lit (base := w.heap.size) (e := 3) (size := 1) w #[.int .i64 2, .int .i64 3, .int .i64 1, .int .i64 0] 4 (Nat.le_refl _) (by decide) (by simp)
  have SR := Lib.hid (h.newRow ((Keeps.refl _ _).alloc (.cells #[.int .i64 2, .int .i64 3, .int .i64 1, .int .i64 0] 3)) hrow)
  have HP := Lib.hid (permOf_any SR.out (.slice (some ⟨w.heap.size, 0, none⟩) 4 4) [2, 3, 1, 0] (by decide) (fun w' os' h' => h'.reads (E := 3) (by simp [intsOf])))
  clear h hrow
  go_enter Try.func8, Try.ntmps8
  go_wp2_with fail
  refine HP.out.mono ?_
  rintro e w2 (⟨_, p, v, rfl, hS⟩ | ⟨hn, _⟩)
  · have HS := Lib.hid hS
    have HE := Lib.hid (labEnc_any hS p v [2, 3, 1, 0] (by simp) (by simp) isPerm_2310 (by decide))
    clear hS HP SR
    go_wp2_with fail
    refine HE.out.mono ?_
    rintro e w3 (⟨_, _, b, vv, rfl, hS3⟩ | ⟨hn, _⟩)
    · rw [show ([2, 3, 1, 0] : List Int).length / 2 = 2 from rfl, label_2310] at hS3
      have HS4 := Lib.hid hS3
      clear hS3 HE HS
      go_wp2_with fail
      have ht : Calls Try.prog 18 #[.pointer (some ⟨b, 0, none⟩)] w3 _ := vecText_any (b := b) (v := vv) (l := [true, false, false, true]) HS4.out (by simp) (by decide)
      refine ht.mono ?_
      rintro e w4 ⟨rfl, h4⟩
      rw [show strOf (textOf [true, false, false, true]) = ⟨#[49, 48, 48, 49]⟩ by rfl]
      have H4 := Lib.hid h4
      clear ht h4 HS4
      go_wp2
      go_ret
      exact ⟨rfl, H4.out.tail.tail.tail.tail⟩
    · exact absurd ⟨rfl, matesTo_2310⟩ hn
  · exact absurd isPerm_2310 hn
end Go.Proofs.Ytoipbbobkllddaa

