/- The walk of BitsSame. -/
import Derived.Test.YtpepihciaendlaaNil
import Derived.Test.YtpepihciaendlaaReadsWalk
namespace Go.Proofs.Ytpepihciaendlaa
open Go.RowKit

theorem numBits_num (l : List Bool) (n : Nat) (h : l.length = n) : numBits (BitsP.num l) n = l := by
  subst h
  apply List.ext_getElem
  · simp [numBits]
  · intro i h1 h2
    simp [numBits, BitsP.testBit_num, List.getD, h2]

theorem bitsOf_inj {l m : List Bool} (h : bitsOf l = bitsOf m) : l = m := by rw [← flags_bitsOf l, h, flags_bitsOf]

theorem same_ints {w : World} {u v : Value} {l m : List Bool} (hu : Reads w u (intsOf (bitsOf l))) (hv : Reads w v (intsOf (bitsOf m))) :
    Calls Try.prog 32 #[u, v] w fun e w' => e = .returned (.bool (decide (l = m))) ∧ ∃ d, w' = w.drewN d := by
  refine (equalInts_any u v (bitsOf l) (bitsOf m) w hu hv).mono ?_
  rintro e w' ⟨rfl, hw⟩
  refine ⟨?_, hw⟩
  congr 2
  exact decide_eq_decide.2 ⟨bitsOf_inj, fun h => by rw [h]⟩

theorem ownAddr {w0 w : World} {os : List Thing} {E : TypeId} {a : Option Addr} {n cap : Nat} {xs : List Value} (h : St w0 w (rowT E (.slice a n cap) xs :: os)) : a = none ∨ ∃ g, a = some ⟨g, 0, none⟩ := by
  rcases h.row.2 with ⟨he, _⟩ | ⟨g, cap, cur, he, _⟩
  · simp only [Value.slice.injEq] at he; exact .inl he.1
  · simp only [Value.slice.injEq] at he; exact .inr ⟨g, he.1⟩

set_option maxRecDepth 100000 in
set_option maxHeartbeats 4000000 in
theorem bitsSame_walk (a0 : Option Addr) (len0 cap0 : Nat) (z0 : List Int) (a1 : Option Addr) (len1 cap1 : Nat) (z1 : List Int) (a2 : Int) (a3 : Int) (w : World) (w0 : IsRow .u8 w a0 len0 cap0 z0) (w1 : IsRow .u8 w a1 len1 cap1 z1) (w2 : (Lit.int .u8 a2).wf = true) (w3 : (Lit.int .u8 a3).wf = true) :
    Calls Try.prog 8 #[.slice a0 len0 cap0, .slice a1 len1 cap1, .int .u8 a2, .int .u8 a3] w fun e w' => e = .returned (.bool true) ∧ Below w.heap.size w w' := by
  obtain ⟨p, e0, hp, R0, m0⟩ := w0.bytes
  obtain ⟨q, e1, hq, R1, m1⟩ := w1.bytes
  obtain ⟨y1, y1'⟩ := wf_u8 w2
  obtain ⟨n, rfl⟩ := Int.eq_ofNat_of_zero_le y1
  obtain ⟨z1, z1'⟩ := wf_u8 w3
  obtain ⟨m, rfl⟩ := Int.eq_ofNat_of_zero_le z1
  have HN : Hid (n < 256) := by show n < 256; omega
  have HMM : Hid (m < 256) := by show m < 256; omega
  have HPL : Hid (p.length ≤ 9223372036854775807) := by show p.length ≤ _; unfold maxLen at m0; omega
  have HQL : Hid (q.length ≤ 9223372036854775807) := by show q.length ≤ _; unfold maxLen at m1; omega
  have H := Lib.hid (St.start w)
  have HR0 := Lib.hid R0
  have HR1 := Lib.hid R1
  have HP := Lib.hid hp
  have HQ := Lib.hid hq
  clear w0 w1 w2 w3 m0 m1 R0 R1 hp hq y1 z1 e0 e1
  go_enter Try.func8, Try.ntmps8
  go_wp2_with fail
  refine (awake_any H.out).mono ?_
  rintro e w1 ⟨rfl, h1⟩
  have H1 := Lib.hid h1
  clear h1 H
  go_wp2_with fail
  refine (refFew_any H1.out _ p HP.out HPL.out (fun w' o h' => h'.arg HR0.out) n (by have := HN.out; omega)).mono ?_
  rintro e w2 ⟨v, rfl, h2⟩
  have hK := fewOf_len p n
  generalize fewOf p n = K at h2 hK
  obtain ⟨ak, capk, rfl, hcapk, hcmk⟩ := ownsRow_slice h2.row
  rw [intsOf_len, bitsOf_len] at h2 hcapk ⊢
  have H2 := Lib.hid h2
  clear h2 H1 HR0 HP HPL
  go_wp2_with fail
  refine (refFew_any H2.out _ q HQ.out HQL.out (fun w' o h' => h'.arg HR1.out) m (by have := HMM.out; omega)).mono ?_
  rintro e w3 ⟨v, rfl, h3⟩
  have hL := fewOf_len q m
  generalize fewOf q m = L at h3 hL
  obtain ⟨al, capl, rfl, hcapl, hcml⟩ := ownsRow_slice h3.row
  have HA := Lib.hid (ownAddr h3)
  rw [intsOf_len, bitsOf_len] at h3 hcapl ⊢
  have H3 := Lib.hid h3
  clear h3 H2 HR1 HQ HQL
  have hK' : K.length < 256 := by have := HN.out; omega
  have hL' : L.length < 256 := by have := HMM.out; omega
  clear hK hL HN HMM
  go_wp2_with fail
  refine (of_any H3.out _ K (by omega) (fun w' os' h' => h'.reads (E := 3) (by simp))).mono ?_
  rintro e w4 ⟨b, vb, rfl, h4⟩
  have H4 := Lib.hid h4
  clear h4 H3
  go_wp2_with fail
  refine (bitsNew_any H4.out).mono ?_
  rintro e w5 ⟨b2, rfl, h5, _⟩
  have H5 := Lib.hid h5
  clear h5 H4
  have hcapl64 : capl ≤ 9223372036854775807 := by unfold maxLen at hcml; omega
  clear hcml hcmk
  go_wp2_with fail
  go_loopw [13] (fun i wr => ∃ (t : Nat) (v : Value), t ≤ 300 ∧ i = .int .i64 t ∧ St w wr (vecT b2 v (L.take t) :: vecT b vb K :: rowT 3 (.slice al L.length capl) (intsOf (bitsOf L)) :: rowT 3 (.slice ak K.length capk) (intsOf (bitsOf K)) :: [])) (fun i _ => 300 - (intOf i).toNat)
  case atStart => exact ⟨0, _, by omega, rfl, H5.out⟩
  case round =>
    obtain ⟨t, v, ht, rfl, hS⟩ := hrel
    have HS := Lib.hid hS
    clear hS H5
    by_cases hlt : t < L.length
    · have HR := Lib.hid (HS.out.reads (E := 3) (v := .slice al L.length capl) (xs := intsOf (bitsOf L)) (by simp))
      rcases HA.out with rfl | ⟨g, rfl⟩
      · exfalso
        obtain ⟨_, _, he, _, _, hz, _⟩ := HR.out
        simp only [Value.slice.injEq] at he
        obtain ⟨he1, _, rfl⟩ := he
        have := hz he1.symm
        omega
      obtain ⟨m', hm', hm1, hm2, hm3⟩ : ∃ m', m' = min L.length (t + 7) ∧ t ≤ m' ∧ m' ≤ L.length ∧ m' ≤ t + 7 := ⟨_, rfl, by omega, by omega, by omega⟩
      have hmin : ∀ w, (Builtin.min_ #[3, 3] 3 #[.int .i64 L.length, .int .i64 ((t : Int) + 7)]).run Try.prog w = .ok (.int .i64 m') w := fun w => by
        rw [run_min2]
        congr 2
        split <;> omega
      have HTK : Hid (L.take (t + 7) = L.take m') := by
        show L.take (t + 7) = L.take m'
        rw [hm']
        by_cases h7 : t + 7 ≤ L.length
        · rw [Nat.min_eq_right h7]
        · rw [Nat.min_eq_left (by omega), List.take_length, List.take_of_length_le (by omega)]
      have HJ : Hid (L.take t ++ (L.take m').drop t = L.take m') := by
        show L.take t ++ (L.take m').drop t = L.take m'
        have : L.take t = (L.take m').take t := by rw [List.take_take, Nat.min_eq_left hm1]
        rw [this, List.take_append_drop]
      have HSL : Hid (((L.take m').drop t).length = m' - t) := by
        show ((L.take m').drop t).length = m' - t
        rw [List.length_drop, List.length_take]; omega
      have HRS : Hid (Reads wr (.slice (some ⟨g, 0 + t, none⟩) (m' - t) (capl - t)) (intsOf (bitsOf ((L.take m').drop t)))) := by
        have := (HR.out.take m' hm2).drop t hm1
        rw [intsOf_take, intsOf_drop] at this
        exact this
      have HL7 : Hid ((L.take t).length < 1099511627000) := by
        show (L.take t).length < 1099511627000
        rw [List.length_take]; omega
      generalize (L.take m').drop t = S at HJ HSL HRS
      have hct : ¬ capl = t := by omega
      have hmc : m' ≤ capl := by omega
      rw [Nat.zero_add] at HRS
      clear hm' HR
      go_wp2_with fail
      refine (refValue_any _ S _ HRS.out (by rw [HSL.out]; omega)).mono ?_
      rintro e w6 ⟨rfl, rfl⟩
      have hnum : BitsP.num S < 18446744073709551616 := by
        have h1 := BitsP.num_lt S
        have h2 : 2 ^ S.length ≤ 2 ^ 64 := Nat.pow_le_pow_right (by decide) (by rw [HSL.out]; omega)
        omega
      have HNB := Lib.hid (numBits_num S (m' - t) HSL.out)
      go_wp2_with fail
      refine (vecNum_any HS.out (BitsP.num S) ((m' - t : Nat) : Int) hnum HL7.out).mono ?_
      rintro e w7 ⟨rfl, v7, h7⟩
      rw [clamp_nat (m' - t) (by omega), HNB.out, HJ.out, ← HTK.out] at h7
      have H7 := Lib.hid h7
      clear h7 HS hnum hmin
      go_wp2
      go_roundw
      case rel => exact ⟨t + 7, v7, by omega, by go_num, H7.out⟩
      case measure => simp [intOf]; omega
    · have htk : L.take t = L := List.take_of_length_le (by omega)
      rw [htk] at HS
      clear htk ht
      go_wp2_with fail
      refine (vecAdd_nil _ _).mono ?_
      rintro e w6 ⟨rfl, rfl⟩
      have H6 := Lib.hid (HS.out.newCell (.cells #[.int .i64 1] 3)).tail
      clear HS
      generalize wr.alloc (.cells #[.int .i64 1] 3) = W6 at H6 ⊢
      go_wp2_with fail
      refine (vecNum_nil _ _ _).mono ?_
      rintro e w7 ⟨rfl, rfl⟩
      go_wp2_with fail
      refine (join_nil (b := b) (v := vb) (l := K) H6.out (by simp) (by omega)).mono ?_
      rintro e w8 ⟨rfl, h8⟩
      have H8 := Lib.hid h8
      clear h8 H6
      go_wp2_with fail
      refine (cut_nil _ _ _).mono ?_
      rintro e w9 ⟨rfl, rfl⟩
      go_wp2_with fail
      refine (read_nil _).mono ?_
      rintro e w10 ⟨rfl, rfl⟩
      go_wp2_with fail
      refine (readerNum_nil _ _).mono ?_
      rintro e w11 ⟨rfl, rfl⟩
      go_wp2_with fail
      refine (same_any (b := b) (b' := b2) (v := vb) (v' := v) (l := K) (l' := L) H8.out (by simp) (by simp)).mono ?_
      rintro e w12 ⟨rfl, d1, rfl⟩
      have H9 := Lib.hid (H8.out.drewN d1)
      clear H8
      generalize w8.drewN d1 = W9 at H9 ⊢
      obtain ⟨D, hD⟩ : ∃ D, decide (K = L) = D := ⟨_, rfl⟩
      rw [hD]
      have HD := Lib.hid hD
      clear hD
      have HE : Hid (∀ w', St w w' (vecT b2 v L :: vecT b vb K :: rowT 3 (.slice al L.length capl) (intsOf (bitsOf L)) :: rowT 3 (.slice ak K.length capk) (intsOf (bitsOf K)) :: []) → Calls Try.prog 32 #[.slice ak K.length capk, .slice al L.length capl] w' fun e w'' => e = .returned (.bool D) ∧ ∃ d, w'' = w'.drewN d) := fun w' h' => by
        have := same_ints (l := K) (m := L) (h'.reads (E := 3) (v := .slice ak K.length capk) (xs := intsOf (bitsOf K)) (by simp)) (h'.reads (E := 3) (v := .slice al L.length capl) (xs := intsOf (bitsOf L)) (by simp))
        rwa [HD.out] at this
      have HD2 : Hid (decide (L = K) = D) := by
        show decide (L = K) = D
        rw [← HD.out]
        exact decide_eq_decide.2 eq_comm
      go_wp2_with fail
      refine (HE.out _ H9.out).mono ?_
      rintro e w13 ⟨rfl, d2, rfl⟩
      have H10 := Lib.hid (H9.out.drewN d2)
      clear H9
      generalize W9.drewN d2 = W10 at H10 ⊢
      go_wp2_with fail
      refine (same_any (b := b2) (b' := b) (v := v) (v' := vb) (l := L) (l' := K) H10.out (by simp) (by simp)).mono ?_
      rw [HD2.out]
      rintro e w14 ⟨rfl, d3, rfl⟩
      have H11 := Lib.hid (H10.out.drewN d3)
      clear H10
      generalize W10.drewN d3 = W11 at H11 ⊢
      go_wp2_with fail
      refine (HE.out _ H11.out).mono ?_
      rintro e w15 ⟨rfl, d4, rfl⟩
      have H12 := Lib.hid (H11.out.drewN d4)
      clear H11
      generalize W11.drewN d4 = W12 at H12 ⊢
      go_wp2_with fail
      refine (same_nil (b' := b) (v' := vb) (l' := K) H12.out (by simp)).mono ?_
      rintro e w16 ⟨rfl, d5, rfl⟩
      have H13 := Lib.hid (H12.out.drewN d5)
      clear H12
      generalize W12.drewN d5 = W13 at H13 ⊢
      have hk0 : decide (K = []) = ((K.length : Int) == 0) := by
        cases K with
        | nil => rfl
        | cons x l => simp; omega
      rw [hk0]
      clear hk0
      obtain ⟨B, hB⟩ : ∃ B, ((K.length : Int) == 0) = B := ⟨_, rfl⟩
      rw [hB]
      go_wp2_with fail
      refine (vecLen_nil _).mono ?_
      rintro e w17 ⟨rfl, rfl⟩
      go_wp2_with fail
      refine (ones_nil _).mono ?_
      rintro e w18 ⟨rfl, rfl⟩
      go_wp2_with fail
      refine (bytes_nil H13.out).mono ?_
      rintro e w19 ⟨⟨g19, rfl⟩, h19⟩
      have H14 := Lib.hid h19
      clear h19 H13
      go_wp2_with fail
      refine (text_nil H14.out).mono ?_
      rw [show strOf [] = ⟨#[]⟩ by rfl]
      rintro e w20 ⟨rfl, h20⟩
      have H15 := Lib.hid h20
      clear h20 H14
      go_wp2_with fail
      refine (read_nil _).mono ?_
      rintro e w21 ⟨rfl, rfl⟩
      go_wp2_with fail
      refine (readerLeft_nil _).mono ?_
      rintro e w22 ⟨rfl, rfl⟩
      go_wp2_with fail
      refine (vecAt_nil _).mono ?_
      rintro e w23 ⟨rfl, rfl⟩
      go_wp2
      go_ret
      exact ⟨rfl, H15.out.bel⟩
end Go.Proofs.Ytpepihciaendlaa

