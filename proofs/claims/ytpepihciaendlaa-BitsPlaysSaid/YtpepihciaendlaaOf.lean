/- The laws' own helpers: of, awake. -/
import Derived.Test.YtpepihciaendlaaRef
namespace Go.Proofs.Ytpepihciaendlaa
open Go.RowKit

theorem sizeOf_clamp (k : Int) : sizeOf' k = clamp k := by unfold sizeOf' clamp; split <;> (try split) <;> omega

set_option maxHeartbeats 1000000 in
theorem of_any {w0 w : World} {os : List Thing} (h : St w0 w os) (sv : Value) (l : List Bool) (hn : l.length < 1099511627000)
    (hv : ∀ w' os', St w0 w' (os' ++ os) → Reads w' sv (intsOf (bitsOf l))) :
    Calls Try.prog 11 #[sv] w fun e w' => ∃ b v, e = .returned (.pointer (some ⟨b, 0, none⟩)) ∧ St w0 w' (vecT b v l :: os) := by
  obtain ⟨ao, cap, rfl, hcap, hm, _, hc0⟩ := hv w [] h
  rw [intsOf_len, bitsOf_len] at hcap hv ⊢
  have HV := Lib.hid hv
  have H := Lib.hid h
  clear hm hc0 h hv
  go_enter Try.func11, Try.ntmps11
  go_wp2_with fail
  refine (bitsNew_any H.out).mono ?_
  rintro e w1 ⟨b, rfl, h1, _⟩
  have H1 := Lib.hid h1
  clear h1 H
  go_wp2_with fail
  go_loopw [9] (fun i wr => ∃ k : Nat, k ≤ l.length ∧ i = .int .i64 k ∧ ∃ v, St w0 wr (vecT b v (l.take k) :: os)) (fun i _ => l.length - (intOf i).toNat)
  case atStart => exact ⟨0, by omega, rfl, _, by simpa using H1.out⟩
  case round =>
    obtain ⟨k, hk, rfl, v, hS⟩ := hrel
    clear H1
    by_cases hlt : k < l.length
    · obtain ⟨ao', cap', he, _, _, _, hc⟩ := HV.out wr [_] hS
      simp only [Value.slice.injEq] at he
      obtain ⟨rfl, hdrop, rfl⟩ := he
      clear hdrop
      rcases hc with hc | ⟨bb, off, rfl, hc⟩
      · have : l.length = 0 := by rw [← bitsOf_len, ← intsOf_len, hc]; rfl
        omega
      have cb := hc k _ (bitsOf_get l k hlt)
      have hs : l.take (k + 1) = l.take k ++ [l.getD k false] := by
        rw [List.take_succ_eq_append_getElem hlt]; simp [List.getD_eq_getElem?_getD, hlt]
      have hll : (l.take k).length < 1099511627000 := by rw [List.length_take]; omega
      have HF := Lib.hid hs
      have HS := Lib.hid hS
      generalize l.getD k false = t at cb HF
      clear hs hS hc
      go_wp2_with fail
      have S1 := Lib.hid (HS.out.newCell (.cells #[.int .i64 ((t.toNat : Nat) : Int)] 3)).swap
      have hr : ∀ w' v' l', St w0 w' (vecT b v' l' :: cellT wr.heap.size (.cells #[.int .i64 ((t.toNat : Nat) : Int)] 3) :: os) → Reads w' (.slice (some ⟨wr.heap.size, 0, none⟩) 1 1) (intsOf [((t.toNat : Nat) : Int)]) := by
        intro w' v' l' h'
        refine ⟨_, 1, rfl, Nat.le_refl _, by decide, by simp, .inr ⟨_, 0, rfl, fun i u hu => ?_⟩⟩
        rw [Nat.zero_add, h'.swap.cellAt i]
        simpa [intsOf] using hu
      refine (vecAdd_any S1.out _ [((t.toNat : Nat) : Int)] hr (by simp only [List.length_cons, List.length_nil]; omega)).mono ?_
      rintro e w2 ⟨rfl, v2, S2⟩
      have hfl : flags [((t.toNat : Nat) : Int)] = [t] := by cases t <;> rfl
      rw [hfl] at S2
      have S3 := Lib.hid S2.swap.tail
      clear S1 S2 hr hfl
      go_wp2
      go_roundw
      case rel => exact ⟨k + 1, by omega, by go_num, v2, by rw [HF.out]; exact S3.out⟩
      case measure => simp [intOf]; omega
    · have hkl : k = l.length := by omega
      subst hkl
      rw [List.take_length] at hS
      have HS := Lib.hid hS
      clear hS
      go_wp2
      go_ret
      exact ⟨b, v, rfl, HS.out⟩

theorem St.reads1 {w0 w : World} {os : List Thing} {E : TypeId} {v : Value} {xs : List Value} (h : St w0 w (rowT E v xs :: os)) : Reads w v xs := h.reads (E := E) (by simp)

set_option maxHeartbeats 1000000 in
theorem awake_any {w0 w : World} {os : List Thing} (h : St w0 w os) : Calls Try.prog 9 #[] w fun e w' => e = .returned (.bool true) ∧ St w0 w' os := by
  have H := Lib.hid h
  clear h
  go_enter Try.func9, Try.ntmps9
  go_wp2_with fail
  refine (bitsNew_any H.out).mono ?_
  rintro e w1 ⟨b, rfl, h1, _⟩
  have H1 := Lib.hid h1
  clear h1 H
  go_wp2_with fail
  refine (vecNum_any H1.out 6 4 (by decide) (by decide)).mono ?_
  rintro e w2 ⟨rfl, v, h2⟩
  have hl : [] ++ numBits 6 (clamp 4) = [false, true, true, false] := by decide
  rw [hl] at h2
  have H2 := Lib.hid h2
  clear h2 H1 hl
  go_wp2_with fail
  refine (vecText_any (v := v) (l := [false, true, true, false]) H2.out (by simp) (by decide)).mono ?_
  rintro e w3 ⟨rfl, h3⟩
  rw [show strOf (textOf [false, true, true, false]) = ⟨#[48, 49, 49, 48]⟩ by rfl]
  have H3 := Lib.hid h3
  clear h3 H2
  go_wp2_with fail
  refine (vecBytes_any (v := v) (l := [false, true, true, false]) H3.out (by simp) (by decide)).mono ?_
  rintro e w4 ⟨g, rfl, h4, _⟩
  rw [show bytesB [false, true, true, false] = [6] by decide, show ([false, true, true, false].length + 7) / 8 = 1 by decide] at h4
  rw [show ([false, true, true, false].length + 7) / 8 = 1 by decide]
  have H4 := Lib.hid h4
  clear h4 H3
  go_wp2_with fail
  have S5 := Lib.hid (H4.out.newCell (.cells #[.int .u8 6] 5)).swap
  refine (bytesEqual_any _ _ [6] [6] _ S5.out.reads1 (Reads.made w4 #[.int .u8 6] 5 (0, 0) 1 (by decide) (by decide)) (by decide) (by decide)).mono ?_
  rintro e w5 ⟨rfl, rfl⟩
  have S6 := Lib.hid S5.out.swap.tail.tail.tail
  clear S5 H4
  go_wp2
  go_ret
  exact ⟨rfl, S6.out⟩
end Go.Proofs.Ytpepihciaendlaa

