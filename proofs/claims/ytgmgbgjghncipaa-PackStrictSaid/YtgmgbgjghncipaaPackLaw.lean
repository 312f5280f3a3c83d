/- What is packed is read again: plain. -/
import Derived.Test.YtgmgbgjghncipaaPackUn
namespace Go.Proofs.Ytgmgbgjghncipaa
open Go.RowKit

theorem fewOf_bytesB (l : List Bool) : fewOf (bytesB l) l.length = l := by
  apply List.ext_getElem
  · unfold fewOf; rw [List.length_take, eights_len, bytesB_len]; omega
  · intro i h1 h2
    have h3 : (fewOf (bytesB l) l.length).getD i false = l.getD i false := by
      unfold fewOf
      rw [List.getD_eq_getElem?_getD, List.getElem?_take_of_lt h2, ← List.getD_eq_getElem?_getD, eights_getD]
      have hlt : i / 8 < (l.length + 7) / 8 := by omega
      have hb : (bytesB l).getD (i / 8) 0 = byteAt l (i / 8) := by
        rw [List.getD_eq_getElem?_getD]; unfold bytesB
        rw [List.getElem?_map, List.getElem?_range hlt]; rfl
      rw [hb, ← testBit_bit, byteAt_testBit, show 8 * (i / 8) + i % 8 = i by omega]
      simp [Nat.mod_lt]
    rwa [List.getD_eq_getElem?_getD, List.getD_eq_getElem?_getD, List.getElem?_eq_getElem h1, List.getElem?_eq_getElem h2] at h3

theorem partB_bytes (l : List Bool) (rest : List Nat) (hl : l.length ≤ 134217728) : partB (bytesB l ++ rest) l.length = some l := by
  unfold partB
  have e : (bytesB l ++ rest).take ((l.length + 7) / 8) = bytesB l := by
    rw [← bytesB_len l]; simp
  rw [e, fewOf_bytesB, if_pos rfl, if_neg]
  rintro (h | h)
  · omega
  · rw [List.length_append, bytesB_len] at h; omega

theorem packK_is (plain : Bool) (l : List Bool) : ∀ k, k ≤ 9 → packK plain l k = 0 :: bytesB l ∨ (plain = false ∧ ∃ j, j ≤ 8 ∧ packK plain l k = codedB j l) := by
  intro k
  induction k with
  | zero => intro _; exact .inl rfl
  | succ k ih =>
    intro hk
    unfold packK
    split
    · rename_i h; exact .inr ⟨h.1, k, by omega, rfl⟩
    · exact ih (by omega)

theorem readU_pack (plain : Bool) (l : List Bool) (rest : List Nat) (hl : l.length ≤ 16777216) : ReadU (packB plain l ++ rest) l.length plain l := by
  have hlen := packK_len plain l 9
  unfold packB
  rcases packK_is plain l 9 (Nat.le_refl _) with h | ⟨hp, j, hj, h⟩
  · rw [h]
    exact ⟨0, bytesB l ++ rest, rfl, by omega, fun _ => rfl, .inl ⟨_, rfl, partB_bytes l rest (by omega)⟩⟩
  · rw [h] at hlen ⊢
    unfold codedB at hlen ⊢
    rw [List.length_cons, List.length_append, bytesB_len] at hlen
    have hC : (CoderP.code j l).length ≤ 134217728 := by omega
    refine ⟨j + 1, _, List.cons_append .., by omega, (fun h => by rw [hp] at h; cases h), .inr ⟨j + 1, _, (CoderP.code j l).length, CoderP.code j l, List.cons_append .., by omega, by omega, ?_, ?_, ?_, ?_⟩⟩
    · rw [List.append_assoc]; exact List.prefix_append _ _
    · rw [List.append_assoc, List.drop_left]
      exact partB_bytes _ rest hC
    · exact CoderP.told_code j l
    · rfl

/-- bytes that begin with the pack of some bits are unpacked to them -/
theorem unOut_ok {w0 w' : World} {os : List Thing} {plain : Bool} {l : List Bool} {rest : List Nat} {e : Ending} (hl : l.length ≤ 16777216) (h : UnOut w0 os (packB plain l ++ rest) l.length plain e w') :
    ∃ o v, e = .returned (.tuple #[.pointer (some ⟨o, 0, none⟩), .int .i64 ((packB plain l).length : Nat), .int .i64 0]) ∧ St w0 w' (vecT o v l :: os) := by
  rcases h with ⟨h, _⟩ | ⟨k, hk, _, h⟩
  · omega
  · obtain rfl : l.length = k := by omega
    rcases h with ⟨m, h1, h2, o, v, rfl, h3⟩ | ⟨ev, _, _, hno, _⟩
    · obtain ⟨b, r, he, _, _, h4⟩ := h1
      obtain ⟨b', r', he', _, _, h5⟩ := readU_pack plain l rest hl
      obtain rfl := readOK_uniq h4 h5
      exact ⟨o, v, rfl, h3⟩
    · exact absurd (List.prefix_append _ _) (hno l (readU_pack plain l rest hl))
end Go.Proofs.Ytgmgbgjghncipaa

