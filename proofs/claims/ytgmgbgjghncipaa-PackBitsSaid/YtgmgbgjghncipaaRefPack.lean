/- The document's Pack. -/
import Derived.Test.YtgmgbgjghncipaaPackLaw
import Derived.Test.YtgmgbgjghncipaaRef18
import Derived.Test.YtgmgbgjghncipaaRefOut
namespace Go.Proofs.Ytgmgbgjghncipaa
open Go.RowKit

set_option maxRecDepth 100000 in
set_option maxHeartbeats 2000000 in
theorem refPack_any {w0 w : World} {os : List Thing} (h : St w0 w os) (sv : Value) (l : List Bool) (plain : Bool) (hl : l.length ≤ 100000)
    (hv : ∀ w' os', St w0 w' (os' ++ os) → Reads w' sv (intsOf (bitsOf l))) :
    Calls Try.prog 22 #[sv, .bool plain] w fun e w' => ∃ v, e = .returned v ∧ St w0 w' (rowT 5 v (bytesOf (packB plain l)) :: os) := by
  obtain ⟨i0, hi, hz0, hz1, hz2⟩ := info_parts info_u8
  have HO : Hid (∀ (W : World) (os2 : List Thing) (y : Nat), St w0 W os2 → St w0 (W.alloc (.cells #[.int .u8 (y : Int)] 5)) (rowT 5 (.slice (some ⟨W.heap.size, 0, none⟩) 1 1) (bytesOf [y]) :: os2)) := by
    intro W os2 y hW
    exact hW.newRow ((Keeps.refl _ _).alloc _) (World.ownsRow_lit (base := W.heap.size) (e := 5) (size := 1) W #[.int .u8 (y : Int)] 1 (Nat.le_refl _) (by decide) (by simp))
  have S0 := Lib.hid (HO.out w os 0 h)
  have e1 : ∀ (o : Thing) (os' : List Thing), os' ++ o :: os = (os' ++ [o]) ++ os := fun o os' => by simp
  have HB0 : Hid (∀ (o : Thing) (W : World), St w0 W (o :: os) → Calls Try.prog 29 #[sv] W fun e w' => ∃ v, e = .returned v ∧ St w0 w' (rowT 5 v (bytesOf (bytesB l)) :: o :: os)) := by
    intro o W hW
    exact refBytes_any hW sv l (by omega) (fun w' o' h' => hv w' [o', o] (by simpa using h'))
  have HE0 : Hid (∀ (o : Thing) (W : World) (k : Nat), k ≤ 8 → St w0 W (o :: os) → Calls Try.prog 30 #[sv, .int .i64 k] W fun e w' => ∃ v, e = .returned v ∧ St w0 w' (rowT 3 v (intsOf (bitsOf (CoderP.code k l))) :: o :: os)) := by
    intro o W k hk hW
    exact ref18_any hW sv l k hk (by omega) (fun W os' h' => hv W (os' ++ [o]) (by rw [← e1]; exact h'))
  clear h hv e1
  go_enter Try.func22, Try.ntmps22
  go_wp2_with fail
  refine (HB0.out _ _ S0.out).mono ?_
  rintro e w1 ⟨v1, rfl, S1⟩
  have R1 := Lib.hid (S1.reads (List.mem_cons_self ..))
  have S1 := Lib.hid S1.swap
  have HLB : Hid ((bytesOf (bytesB l)).length ≤ 100000) := by show _ ≤ _; rw [bytesOf_len, bytesB_len]; omega
  have HE : Hid (bytesOf [0] ++ bytesOf (bytesB l) = bytesOf (packK plain l 0)) := by
    show _ = _
    rw [← bytesOf_append]; rfl
  clear S0 HB0
  go_wp2_with (at_builtin; refine wpList_append_st rfl _ _ 23 rfl 5 i0 (.int .u8 0) 1 Try.underlying23 hi hz0 hz1 hz2 rfl _ _ _ (bytesOf (bytesB l)) rfl rfl S1.out R1.out (oneCell_bytes _) ?c1 ?c2 ?_)
  case c1 => have := HLB.out; unfold maxLen; simp only [bytesOf_len, List.length_cons, List.length_nil] at *; omega
  case c2 => have := HLB.out; simp only [bytesOf_len, List.length_cons, List.length_nil] at *; omega
  intro v2 w2 S2
  rw [HE.out] at S2
  have S2 := Lib.hid S2.swap.tail
  clear S1 HE R1
  go_wp2_with fail
  go_loopw [5, 6] (fun bv kv wr => ∃ k : Nat, k ≤ 9 ∧ kv = .int .i64 k ∧ (plain = true → k = 0) ∧ St w0 wr (rowT 5 bv (bytesOf (packK plain l k)) :: os)) (fun _ kv _ => 9 - (intOf kv).toNat)
  case atStart => exact ⟨0, by omega, rfl, fun _ => rfl, S2.out⟩
  case round =>
    obtain ⟨k, hk, rfl, hp, hS⟩ := hrel
    have HS := Lib.hid hS
    clear hS S2
    cases plain with
    | true =>
      obtain rfl := hp rfl
      have HE : Hid (packK true l 0 = packB true l) := by
        show _ = _
        rcases packK_is true l 9 (Nat.le_refl _) with h | ⟨h, _⟩
        · unfold packB; rw [h]; rfl
        · cases h
      clear hp
      go_wp2_with fail
      go_ret
      exact ⟨_, rfl, by rw [← HE.out]; exact HS.out⟩
    | false =>
      clear hp
      by_cases hlt : k < 9
      · obtain ⟨ab, cb, rfl, _, _⟩ := ownsRow_slice HS.out.row
        have hpl := packK_len false l k
        rw [bytesOf_len] at HS ⊢
        obtain ⟨n1, hn1⟩ : ∃ n1, (packK false l k).length = n1 := ⟨_, rfl⟩
        rw [hn1] at HS ⊢
        have HN1 := Lib.hid hn1
        clear hpl hn1
        go_wp2_with fail
        refine (HE0.out _ wr k (by omega) HS.out).mono ?_
        rintro e w3 ⟨v3, rfl, S3⟩
        obtain ⟨C, hC⟩ : ∃ C, CoderP.code k l = C := ⟨_, rfl⟩
        have hCl := CoderP.code_le k l
        rw [hC] at S3 hCl
        obtain ⟨a3, c3, rfl, _, _⟩ := ownsRow_slice S3.row
        rw [intsOf_len, bitsOf_len] at S3 ⊢
        obtain ⟨n3, hn3⟩ : ∃ n3, C.length = n3 := ⟨_, rfl⟩
        rw [hn3] at S3 hCl ⊢
        have hn3b : n3 < 10000000 := by omega
        have S4 := HO.out w3 _ (k + 1) S3
        have hk1 : ((k + 1 : Nat) : Int) = (k : Int) + 1 := by omega
        rw [hk1] at S4
        have S4 := Lib.hid S4
        have HC := Lib.hid (And.intro hC hn3)
        clear S3 HS hk1 hC hn3 hCl
        go_wp2_with fail
        refine (refNum19_any n3 S4.out (by omega)).mono ?_
        rintro e w5 ⟨v5, rfl, S5⟩
        have R5 := Lib.hid (S5.reads (List.mem_cons_self ..))
        have S5 := Lib.hid S5.swap
        have HLN : Hid ((bytesOf (PackP.numB n3)).length ≤ 10) := by show _ ≤ _; rw [bytesOf_len]; exact PackP.numB_len10 _ (by omega)
        have HE6 : Hid (bytesOf [k + 1] ++ bytesOf (PackP.numB n3) = bytesOf ((k + 1) :: PackP.numB n3)) := by
          show _ = _
          rw [← bytesOf_append]; rfl
        clear S4
        go_wp2_with (at_builtin; refine wpList_append_st rfl _ _ 23 rfl 5 i0 (.int .u8 0) 1 Try.underlying23 hi hz0 hz1 hz2 rfl _ _ _ (bytesOf (PackP.numB n3)) rfl rfl S5.out R5.out (oneCell_bytes _) ?c1 ?c2 ?_)
        case c1 => have := HLN.out; unfold maxLen; simp only [bytesOf_len, List.length_cons, List.length_nil] at *; omega
        case c2 => have := HLN.out; simp only [bytesOf_len, List.length_cons, List.length_nil] at *; omega
        intro v6 w6 S6
        rw [HE6.out] at S6
        have S6 := Lib.hid S6
        clear S5 R5 HE6
        go_wp2_with fail
        rw [← HC.out.2]
        refine (refBytes_any S6.out _ C (by rw [HC.out.2]; omega) (fun w' o' h' => by rw [HC.out.2]; exact h'.reads (E := 3) (by simp))).mono ?_
        rintro e w7 ⟨v7, rfl, S7⟩
        rw [HC.out.2]
        have R7 := Lib.hid (S7.reads (List.mem_cons_self ..))
        have S7 := Lib.hid S7.swap
        have HLM : Hid ((bytesOf ((k + 1) :: PackP.numB n3)).length ≤ 20 ∧ (bytesOf (bytesB C)).length ≤ 10000000) := by
          refine ⟨?_, ?_⟩
          · have := HLN.out; rw [bytesOf_len] at this ⊢; rw [List.length_cons]; omega
          · rw [bytesOf_len, bytesB_len, HC.out.2]; omega
        have HE8 : Hid (bytesOf ((k + 1) :: PackP.numB n3) ++ bytesOf (bytesB C) = bytesOf (codedB k l)) := by
          show _ = _
          rw [← bytesOf_append]; unfold codedB; rw [HC.out.1, HC.out.2]; simp
        clear S6
        go_wp2_with (at_builtin; refine wpList_append_st rfl _ _ 23 rfl 5 i0 (.int .u8 0) 1 Try.underlying23 hi hz0 hz1 hz2 rfl _ _ _ (bytesOf (bytesB C)) rfl rfl S7.out R7.out (oneCell_bytes _) ?c1 ?c2 ?_)
        case c1 => have := HLM.out; unfold maxLen; omega
        case c2 => have := HLM.out; omega
        intro v8 w8 S8
        rw [HE8.out] at S8
        obtain ⟨a8, c8, rfl, _, _⟩ := ownsRow_slice S8.row
        rw [bytesOf_len] at S8 ⊢
        obtain ⟨n2, hn2⟩ : ∃ n2, (codedB k l).length = n2 := ⟨_, rfl⟩
        rw [hn2] at S8 ⊢
        have HN2 := Lib.hid hn2
        have S8 := Lib.hid S8
        clear S7 R7 HE8 hn2
        by_cases hless : n2 < n1
        · have HE : Hid (packK false l (k + 1) = codedB k l) := by show _ = _; simp only [packK]; rw [if_pos ⟨trivial, by have := HN1.out; have := HN2.out; omega⟩]
          have d1 : decide ((n2 : Int) < (n1 : Int)) = true := decide_eq_true (by omega)
          go_wp2_with fail
          go_roundw
          case rel => exact ⟨k + 1, by omega, by go_num, (fun h => by cases h), by rw [HE.out]; exact S8.out.swap.tail.swap.tail.swap.tail.swap.tail⟩
          case measure => simp [intOf]; omega
        · have HE : Hid (packK false l (k + 1) = packK false l k) := by show _ = _; simp only [packK]; rw [if_neg (fun h => hless (by have := HN1.out; have := HN2.out; omega))]
          have d1 : decide ((n2 : Int) < (n1 : Int)) = false := decide_eq_false (by omega)
          go_wp2_with fail
          go_roundw
          case rel => exact ⟨k + 1, by omega, by go_num, (fun h => by cases h), by rw [HE.out]; exact S8.out.tail.tail.tail.tail⟩
          case measure => simp [intOf]; omega
      · obtain rfl : k = 9 := by omega
        go_wp2_with fail
        go_ret
        exact ⟨_, rfl, HS.out⟩
end Go.Proofs.Ytgmgbgjghncipaa

