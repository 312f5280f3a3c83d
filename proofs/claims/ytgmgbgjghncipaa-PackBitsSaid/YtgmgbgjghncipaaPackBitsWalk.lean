/- The walk of PackBits. -/
import Derived.Test.YtgmgbgjghncipaaPackHelp
import Derived.Test.YtgmgbgjghncipaaPackLaw
import Derived.Test.YtgmgbgjghncipaaRefPack
import Derived.Test.YtgmgbgjghncipaaSame
namespace Go.Proofs.Ytgmgbgjghncipaa
open Go.RowKit

theorem times_succ (n : Nat) (l : List Bool) : times (n + 1) l = times n l ++ l := by simp [times, List.replicate_succ']
theorem times_len (n : Nat) (l : List Bool) : (times n l).length = n * l.length := by simp [times]

set_option maxRecDepth 100000 in
set_option maxHeartbeats 4000000 in
theorem packBits_walk (a0 : Option Addr) (len0 cap0 : Nat) (z0 : List Int) (a1 : Int) (a2 : Int) (a3 : Bool) (a4 : Option Addr) (len4 cap4 : Nat) (z4 : List Int) (w : World) (w0 : IsRow .u8 w a0 len0 cap0 z0) (w1 : (Lit.int .u8 a1).wf = true) (w2 : (Lit.int .u8 a2).wf = true) (w4 : IsRow .u8 w a4 len4 cap4 z4) :
    Calls Try.prog 6 #[.slice a0 len0 cap0, .int .u8 a1, .int .u8 a2, .bool a3, .slice a4 len4 cap4] w fun e w' => e = .returned (.bool true) ∧ Below w.heap.size w w' := by
  obtain ⟨i0, hi, hz0, hz1, hz2⟩ := info_parts info_i64
  obtain ⟨j0, ji, jz0, jz1, jz2⟩ := info_parts info_u8
  obtain ⟨p, e0, hp, R0, m0⟩ := w0.bytes
  obtain ⟨q4, e4, hq4, R4, m4⟩ := w4.bytes
  have hplen : p.length ≤ 9223372036854775807 := by unfold maxLen at m0; omega
  have H := Lib.hid (St.start w)
  obtain ⟨n, rfl⟩ : ∃ n : Nat, a1 = n := ⟨a1.toNat, by have := wf_u8 w1; omega⟩
  obtain ⟨t, rfl⟩ : ∃ k : Nat, a2 = k := ⟨a2.toNat, by have := wf_u8 w2; omega⟩
  have hn : n < 256 := by have := wf_u8 w1; omega
  have ht : t < 256 := by have := wf_u8 w2; omega
  obtain ⟨m, hm, hm1, hm2⟩ : ∃ m, m = min len4 20 ∧ m ≤ len4 ∧ m ≤ 20 := ⟨_, rfl, by omega, by omega⟩
  have hmin : ∀ w, (Builtin.min_ #[3, 3] 3 #[.int .i64 len4, .int .i64 20]).run Try.prog w = .ok (.int .i64 m) w := fun w => by
    rw [run_min2]
    congr 2
    split <;> omega
  have hlc := R4.len_le
  have hcm : cap4 ≤ 9223372036854775807 := by
    obtain ⟨_, _, he, _, hm, _⟩ := R4
    simp only [Value.slice.injEq] at he
    obtain ⟨_, _, rfl⟩ := he
    unfold maxLen at hm; omega
  have HR0 := Lib.hid R0
  have HP := Lib.hid (And.intro hp hplen)
  have HR := Lib.hid (R4.take m hm1)
  have HPP : Hid (∀ x ∈ q4.take m, x < 256) := fun x hx => hq4 x (List.mem_of_mem_take hx)
  have hpl : Hid ((q4.take m).length = m) := by show _ = _; rw [List.length_take]; omega
  have HR2 : Hid (Reads w (.slice a4 m cap4) (bytesOf (q4.take m))) := by
    show Reads _ _ _
    have := HR.out
    rwa [show bytesOf (q4.take m) = (bytesOf q4).take m by simp [bytesOf, List.map_take]]
  generalize q4.take m = B at HPP hpl HR2
  have hm' := Lib.hid (And.intro hm1 hm2)
  clear R0 R4 HR hp hq4 w0 w1 w2 w4 m0 m4 hm e0 e4 hplen
  go_enter Try.func6, Try.ntmps6
  go_wp2_with fail
  refine (awake19_any H.out).mono ?_
  rintro e w1 ⟨rfl, h1⟩
  have H1 := Lib.hid h1
  clear h1 H
  have hfew : Calls Try.prog 19 #[.slice a0 len0 cap0, .int .i64 ((n : Int) % 100)] w1 _ := refFew_any H1.out (.slice a0 len0 cap0) p HP.out.1 HP.out.2 (fun w' o h' => h'.arg HR0.out) (n % 100) (by omega)
  have HFEW := Lib.hid hfew
  clear hfew
  go_wp2_with fail
  refine HFEW.out.mono ?_
  rintro e w2 ⟨v1, rfl, h2⟩
  have hL := fewOf_len p (n % 100)
  obtain ⟨L, hLL⟩ : ∃ L, fewOf p (n % 100) = L := ⟨_, rfl⟩
  rw [hLL] at h2 hL
  clear hLL
  have H2 : Hid (St w w2 (rowT 3 (.slice none 0 0) (intsOf (bitsOf (times 0 L))) :: rowT 3 v1 (intsOf (bitsOf L)) :: [])) := h2.newRow (Keeps.refl _ _) (World.ownsRow_nil _ _ _ _)
  have HL99 : Hid (L.length ≤ 99) := by show _ ≤ _; omega
  clear h2 H1 HFEW hL HP HR0
  go_wp2_with fail
  go_loopw [12, 28] (fun v i wr => ∃ j : Nat, j ≤ 1 + t % 10 ∧ i = .int .i64 j ∧ St w wr (rowT 3 v (intsOf (bitsOf (times j L))) :: rowT 3 v1 (intsOf (bitsOf L)) :: [])) (fun _ i _ => 1 + t % 10 - (intOf i).toNat)
  case atStart => exact ⟨0, by omega, rfl, H2.out⟩
  case round =>
    obtain ⟨j, hj, rfl, hS⟩ := hrel
    have HS := Lib.hid hS
    clear hS H2
    by_cases hlt : j < 1 + t % 10
    · have HLEN : Hid ((intsOf (bitsOf (times j L))).length = j * L.length ∧ (intsOf (bitsOf L)).length = L.length ∧ j * L.length ≤ 12 * 100 ∧ L.length ≤ 99) := by
        refine ⟨?_, ?_, ?_, HL99.out⟩
        · rw [intsOf_len, bitsOf_len, times_len]
        · rw [intsOf_len, bitsOf_len]
        · exact Nat.mul_le_mul (by omega) (by have := HL99.out; omega)
      have HT : Hid (intsOf (bitsOf (times (j + 1) L)) = intsOf (bitsOf (times j L)) ++ intsOf (bitsOf L)) := by show _ = _; rw [times_succ, bitsOf_append]
      have HRD := Lib.hid (fun (_ : Unit) => HS.out.tail.reads1)
      go_wp2_with (at_builtin; refine wpList_append_st rfl _ _ 43 rfl 3 i0 (.int .i64 0) 8 Try.underlying43 hi hz0 hz1 hz2 rfl _ _ _ (intsOf (bitsOf L)) rfl rfl HS.out (HRD.out ()) (bits_oneCell _) ?c1 ?c2 ?_)
      case c1 => have := HLEN.out; unfold maxLen; omega
      case c2 => have := HLEN.out; omega
      intro v2 w2 S2
      rw [← HT.out] at S2
      have S2 := Lib.hid S2
      clear HS HRD HT HLEN
      go_wp2
      go_roundw
      case rel => exact ⟨j + 1, by omega, by go_num, S2.out⟩
      case measure => simp [intOf]; omega
    · obtain rfl : j = 1 + t % 10 := by omega
      obtain ⟨F, hF⟩ : ∃ F, times (1 + t % 10) L = F := ⟨_, rfl⟩
      have hFl : F.length ≤ 990 := by
        rw [← hF, times_len]
        have : (1 + t % 10) * L.length ≤ 10 * 99 := Nat.mul_le_mul (by omega) HL99.out
        omega
      rw [hF] at HS
      obtain ⟨aF, cF, rfl, _, _⟩ := ownsRow_slice HS.out.row
      rw [intsOf_len, bitsOf_len] at HS ⊢
      clear hF hj hlt
      go_wp2_with fail
      refine (vec19_any HS.out _ F (by omega) (fun w' os' h' => h'.reads (E := 3) (by simp))).mono ?_
      rintro e w3 ⟨b3, v3, rfl, h3⟩
      have H3 := Lib.hid h3
      clear h3 HS
      go_wp2_with fail
      refine (pack_any H3.out _ F a3 (by omega) (VecIs.vec (b := b3) (v := v3) (l := F) (by simp) (by omega))).mono ?_
      rintro e w4 ⟨v4, rfl, h4⟩
      obtain ⟨Q, hQ⟩ : ∃ Q, packB a3 F = Q := ⟨_, rfl⟩
      have hQl : Q.length ≤ 1 + (F.length + 7) / 8 := by rw [← hQ]; exact packK_len a3 F 9
      have HQB : Hid (∀ x ∈ Q, x < 256) := by rw [← hQ]; exact packB_byte a3 F
      rw [hQ] at h4
      obtain ⟨aQ, cQ, rfl, _, _⟩ := ownsRow_slice h4.row
      rw [bytesOf_len] at h4 ⊢
      have H4 := Lib.hid h4
      have HQ := Lib.hid hQ
      clear h4 H3 hQ
      go_wp2_with fail
      refine (refPack_any H4.out _ F a3 (by omega) (fun w' os' h' => h'.reads (E := 3) (by simp))).mono ?_
      rintro e w5 ⟨v5, rfl, h5⟩
      rw [HQ.out] at h5
      have H5 := Lib.hid h5
      clear h5 H4
      go_wp2_with fail
      have hq := bytesEqual_any (.slice aQ Q.length cQ) v5 Q Q w5 (H5.out.reads (E := 5) (by simp)) (H5.out.reads (List.mem_cons_self ..)) HQB.out HQB.out
      refine hq.mono ?_
      rintro e w6 ⟨rfl, rfl⟩
      rw [decide_eq_true (rfl : Q = Q)]
      have hQ990 : Q.length ≤ 1000 := by omega
      have d1 : decide (1 + ((F.length : Int) + 7) / 8 < (Q.length : Int)) = false := decide_eq_false (by omega)
      have HM := hm'.out
      obtain ⟨hm1, hm2⟩ := HM
      clear hq
      go_wp2_with fail
      refine (cloneBytes_st H5.out _ Q (H5.out.reads (E := 5) (by simp)) (by omega)).mono ?_
      rintro e w7 ⟨a7, c7, rfl, h7, _, _⟩
      have H7 := Lib.hid h7
      have RB := Lib.hid (h7.arg HR2.out)
      have HLB : Hid ((bytesOf B).length ≤ 20 ∧ (bytesOf Q).length ≤ 1000) := by
        refine ⟨?_, ?_⟩
        · rw [bytesOf_len, hpl.out]; exact hm2
        · rw [bytesOf_len]; exact hQ990
      clear h7 H5
      go_wp2_with (at_builtin; refine wpList_append_st rfl _ _ 23 rfl 5 j0 (.int .u8 0) 1 Try.underlying23 ji jz0 jz1 jz2 rfl _ _ _ (bytesOf B) rfl rfl H7.out RB.out (oneCell_bytes _) ?c1 ?c2 ?_)
      case c1 => have := HLB.out; unfold maxLen; omega
      case c2 => have := HLB.out; omega
      intro v8 w8 h8
      rw [← bytesOf_append] at h8
      have H8 := Lib.hid h8
      have HBB : Hid (∀ x ∈ Q ++ B, x < 256) := by
        intro x hx
        rcases List.mem_append.1 hx with h | h
        · exact HQB.out x h
        · exact HPP.out x h
      have hun := unpack_any H8.out v8 (Q ++ B) HBB.out F.length a3 (by rw [List.length_append, hpl.out]; omega) (fun w' os' h' => h'.reads (E := 5) (by simp))
      have HUN := Lib.hid hun
      clear hun h8 H7 RB
      go_wp2_with fail
      refine HUN.out.mono ?_
      rintro e w9 h9
      rw [← HQ.out] at h9
      have hF24 : F.length ≤ 16777216 := by omega
      obtain ⟨o, v, he, h10⟩ := unOut_ok (plain := a3) (l := F) (rest := B) hF24 h9
      subst he
      rw [HQ.out] at h10 ⊢
      have H10 := Lib.hid h10
      clear h9 h10 H8 HUN
      go_wp2_with fail
      refine (vec19_any H10.out _ F (by omega) (fun w' os' h' => h'.reads (E := 3) (v := .slice aF F.length cF) (xs := intsOf (bitsOf F)) (by simp))).mono ?_
      rintro e w11 ⟨b11, v11, rfl, h11⟩
      have H11 := Lib.hid h11
      clear h11 H10
      go_wp2_with fail
      refine (same_any (b := o) (b' := b11) (v := v) (v' := v11) (l := F) (l' := F) H11.out (by simp) (by simp)).mono ?_
      rw [decide_eq_true rfl]
      rintro e w12 ⟨rfl, m12, rfl⟩
      have H12 := Lib.hid (H11.out.drewN m12)
      clear H11
      go_wp2_with fail
      go_ret
      exact ⟨rfl, H12.out.bel⟩
end Go.Proofs.Ytgmgbgjghncipaa

