/- The contract of Vec.Text. -/
import Derived.Test.YtoipbbobkllddaaBuild
namespace Go.Proofs.Ytoipbbobkllddaa
open Go.RowKit

/-- the text of some bits -/
def textOf (l : List Bool) : List Nat := l.map fun b => 48 + b.toNat

theorem textOf_len (l : List Bool) : (textOf l).length = l.length := by simp [textOf]
theorem textOf_lt (l : List Bool) : ∀ x ∈ textOf l, x < 256 := by
  intro x hx
  obtain ⟨b, _, rfl⟩ := List.mem_map.1 hx
  cases b <;> decide
theorem textOf_take (l : List Bool) (k : Nat) (h : k < l.length) (b : Bool) (hb : l.getD k false = b) : textOf (l.take (k + 1)) = textOf (l.take k) ++ [48 + b.toNat] := by
  have : l.take (k + 1) = l.take k ++ [b] := by
    rw [List.take_add_one, List.getElem?_eq_getElem h]
    simp [List.getD, h] at hb
    simp [hb]
  rw [this]; simp [textOf]

set_option maxRecDepth 100000 in
set_option maxHeartbeats 1000000 in
theorem vecText_any {w0 w : World} {os : List Thing} {b : Nat} {v : Value} {l : List Bool} (h : St w0 w os) (hm : vecT b v l ∈ os) (hn : l.length < 1099511627776) :
    Calls Try.prog 18 #[.pointer (some ⟨b, 0, none⟩)] w fun e w' => e = .returned (.string (strOf (textOf l))) ∧ St w0 w' os := by
  have H := Lib.hid h
  have HM := Lib.hid hm
  clear h hm
  go_enter Try.func18, Try.ntmps18
  go_wp2_with fail
  have S1 : Hid (St w0 (w.alloc (.cells #[.pointer none, .slice none 0 0] 91)) (rowT 5 (.slice none 0 0) [] :: cellT w.heap.size (bldObj (.pointer none) (.slice none 0 0)) :: os)) :=
    (H.out.newCell _).newRow (Keeps.refl _ _) (World.ownsRow_nil _ _ _ _)
  obtain ⟨g, hg⟩ : ∃ g, w.heap.size = g := ⟨_, rfl⟩
  rw [hg] at S1 ⊢
  clear hg H
  refine (vecLen_any S1.out.tail.tail HM.out).mono ?_
  rintro e w1 ⟨rfl, rfl⟩
  go_wp2_with fail
  generalize w.alloc (.cells #[.pointer none, .slice none 0 0] 91) = W at S1 ⊢
  go_loopw [7] (fun i wr => ∃ (k : Nat) (p v' : Value), k ≤ l.length ∧ i = .int .i64 k ∧ (p = .pointer none ∨ p = .pointer (some ⟨g, 0, none⟩)) ∧ (k = 0 → v' = .slice none 0 0) ∧ St w0 wr (cellT g (bldObj p v') :: rowT 5 v' (bytesOf (textOf (l.take k))) :: os)) (fun i _ => l.length - (intOf i).toNat)
  case atStart => exact ⟨0, _, _, by omega, rfl, .inl rfl, fun _ => rfl, S1.out.swap⟩
  case round =>
    obtain ⟨k, p, v', hk, rfl, hp, hv, hS⟩ := hrel
    clear S1
    by_cases hlt : k < l.length
    · have HS := Lib.hid hS
      have HP := Lib.hid hp
      clear hS hp hv
      obtain ⟨bit, hbit⟩ : ∃ bit, l.getD k false = bit := ⟨_, rfl⟩
      have HT := Lib.hid (textOf_take l k hlt bit hbit)
      have HB := Lib.hid hbit
      clear hbit
      go_wp2_with fail
      refine (vecAt_in HS.out.tail.tail HM.out k hlt).mono ?_
      rintro e w1 ⟨rfl, rfl⟩
      rw [HB.out]
      have hbn : bit.toNat < 2 := by cases bit <;> decide
      go_wp2_with fail
      rw [show ((48 : Int) + ((bit.toNat : Nat) : Int)) = ((48 + bit.toNat : Nat) : Int) by simp]
      refine (writeByte_any HS.out HP.out (48 + bit.toNat) (by rw [textOf_len, List.length_take]; omega)).mono ?_
      rintro e w2 ⟨rfl, v2, h2⟩
      have H2 := Lib.hid h2
      clear h2 HS HP
      go_wp2_with fail
      go_roundw
      case rel =>
        refine ⟨k + 1, _, v2, by omega, by go_num, .inr rfl, by omega, ?_⟩
        rw [HT.out]
        exact H2.out
      case measure => simp [intOf]; omega
    · have hkn : k = l.length := by omega
      subst hkn
      rw [List.take_length] at hS
      have HS := Lib.hid hS
      have HV : Hid (textOf l = [] → v' = .slice none 0 0) := fun h => hv (by rw [← textOf_len, h]; rfl)
      clear hS hv hp
      go_wp2_with fail
      refine (bldString_any HS.out (textOf_lt l) HV.out).mono ?_
      rintro e w2 ⟨rfl, h2⟩
      have H2 := Lib.hid h2
      go_wp2
      go_ret
      exact ⟨rfl, H2.out⟩
end Go.Proofs.Ytoipbbobkllddaa

