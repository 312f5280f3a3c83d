/- The walk of CoderApart. -/
import Derived.Test.YtcddgcklapinjaaCoderHelp
namespace Go.Proofs.Ytcddgcklapinjaa
open Go.RowKit

theorem code_inj (k : Nat) {A B : List Bool} (h : A.length = B.length) : CoderP.code k A = CoderP.code k B ↔ A = B := by
  constructor
  · intro he
    have h1 := CoderP.told_code k A
    rw [he, h, CoderP.told_code] at h1
    exact h1.symm
  · intro he; rw [he]

set_option maxRecDepth 100000 in
set_option maxHeartbeats 4000000 in
theorem coderApart_walk (a0 : Option Addr) (len0 cap0 : Nat) (z0 : List Int) (a1 : Option Addr) (len1 cap1 : Nat) (z1 : List Int) (a2 : Int) (a3 : Int) (a4 : Int) (a5 : Bool) (w : World) (w0 : IsRow .u8 w a0 len0 cap0 z0) (w1 : IsRow .u8 w a1 len1 cap1 z1) (w2 : (Lit.int .u8 a2).wf = true) (w3 : (Lit.int .u8 a3).wf = true) (w4 : (Lit.int .u8 a4).wf = true) :
    Calls Try.prog 6 #[.slice a0 len0 cap0, .slice a1 len1 cap1, .int .u8 a2, .int .u8 a3, .int .u8 a4, .bool a5] w fun e w' => e = .returned (.bool true) ∧ Below w.heap.size w w' := by
  obtain ⟨p, e0, hp, R0, m0⟩ := w0.bytes
  obtain ⟨q, e1, hq, R1, m1⟩ := w1.bytes
  have hplen : p.length ≤ 9223372036854775807 := by unfold maxLen at m0; omega
  have hqlen : q.length ≤ 9223372036854775807 := by unfold maxLen at m1; omega
  have H := Lib.hid (St.start w)
  have HR0 := Lib.hid R0
  have HR1 := Lib.hid R1
  have HP := Lib.hid (And.intro hp hplen)
  have HQ := Lib.hid (And.intro hq hqlen)
  obtain ⟨n, rfl⟩ : ∃ n : Nat, a2 = n := ⟨a2.toNat, by have := wf_u8 w2; omega⟩
  obtain ⟨k, rfl⟩ : ∃ k : Nat, a3 = k := ⟨a3.toNat, by have := wf_u8 w3; omega⟩
  obtain ⟨j, rfl⟩ : ∃ j : Nat, a4 = j := ⟨a4.toNat, by have := wf_u8 w4; omega⟩
  have hn : n < 256 := by have := wf_u8 w2; omega
  have hk : k < 256 := by have := wf_u8 w3; omega
  have hj : j < 256 := by have := wf_u8 w4; omega
  clear w0 w1 w2 w3 w4 m0 m1 R0 R1 hp hplen e0 e1 hq hqlen
  go_enter Try.func6, Try.ntmps6
  go_wp2_with fail
  refine (awake18_any H.out).mono ?_
  rintro e w1 ⟨rfl, h1⟩
  have H1 := Lib.hid h1
  clear h1 H
  cases a5
  · go_wp2_with fail
    have hfew : Calls Try.prog 18 #[.slice a0 len0 cap0, .int .i64 ((n : Int) % 80)] w1 _ := refFew_any H1.out (.slice a0 len0 cap0) p HP.out.1 HP.out.2 (fun w' o h' => h'.arg HR0.out) (n % 80) (by omega)
    refine hfew.mono ?_
    rintro e w2 ⟨v2, rfl, h2⟩
    have hLA := fewOf_len p (n % 80)
    generalize fewOf p (n % 80) = LA at h2 hLA
    have H2 := Lib.hid h2
    clear h2 H1 hfew
    go_wp2_with fail
    have hfew : Calls Try.prog 18 #[.slice a1 len1 cap1, .int .i64 ((n : Int) % 80)] w2 _ := refFew_any H2.out (.slice a1 len1 cap1) q HQ.out.1 HQ.out.2 (fun w' o h' => h'.arg HR1.out) (n % 80) (by omega)
    refine hfew.mono ?_
    rintro e w3 ⟨v3, rfl, h3⟩
    have hLB := fewOf_len q (n % 80)
    generalize fewOf q (n % 80) = LB at h3 hLB
    obtain ⟨aa, ca, rfl, hca, hcma⟩ := ownsRow_slice h3.swap.row
    obtain ⟨ab, cb, rfl, hcb, hcmb⟩ := ownsRow_slice h3.row
    rw [intsOf_len, bitsOf_len] at h3 hca hcb ⊢
    rw [intsOf_len, bitsOf_len] at h3 ⊢
    have H3 := Lib.hid h3
    clear h3 H2 hfew HR0 HR1 HP HQ
    have hca64 : ca ≤ 9223372036854775807 := by unfold maxLen at hcma; omega
    have hcb64 : cb ≤ 9223372036854775807 := by unfold maxLen at hcmb; omega
    clear hcma hcmb
    obtain ⟨m, hm1, hm2, hmin⟩ : ∃ m : Nat, m ≤ LA.length ∧ m ≤ LB.length ∧ ∀ w, (Builtin.min_ #[3, 3] 3 #[.int .i64 LA.length, .int .i64 LB.length]).run Try.prog w = .ok (.int .i64 m) w := by
      refine ⟨min LA.length LB.length, by omega, by omega, fun w => ?_⟩
      rw [run_min2]
      congr 2
      split <;> omega
    go_wp2_with fail
    go_quiet (fail)
    have H4 := Lib.hid (H3.out.drewN nq)
    clear H3
    generalize w3.drewN nq = w4 at H4 ⊢
    clear hmin
    have HA : Hid (∀ w' os', St w w' (os' ++ (rowT 3 (.slice ab LB.length cb) (intsOf (bitsOf LB)) :: rowT 3 (.slice aa LA.length ca) (intsOf (bitsOf LA)) :: [])) → Reads w' (.slice aa m ca) (intsOf (bitsOf (LA.take m)))) := fun w' os' h' => by
      rw [← intsOf_take]; exact (h'.reads (E := 3) (v := .slice aa LA.length ca) (by simp)).take m hm1
    have HB : Hid (∀ w' os', St w w' (os' ++ (rowT 3 (.slice ab LB.length cb) (intsOf (bitsOf LB)) :: rowT 3 (.slice aa LA.length ca) (intsOf (bitsOf LA)) :: [])) → Reads w' (.slice ab m cb) (intsOf (bitsOf (LB.take m)))) := fun w' os' h' => by
      rw [← intsOf_take]; exact (h'.reads (E := 3) (v := .slice ab LB.length cb) (by simp)).take m hm2
    have hAL : (LA.take m).length = m := by rw [List.length_take]; omega
    have hBL : (LB.take m).length = m := by rw [List.length_take]; omega
    obtain ⟨OS, hOS⟩ : ∃ OS, rowT 3 (.slice ab LB.length cb) (intsOf (bitsOf LB)) :: rowT 3 (.slice aa LA.length ca) (intsOf (bitsOf LA)) :: [] = OS := ⟨_, rfl⟩
    rw [hOS] at HA HB H4
    clear hOS
    have hm80 : m < 80 := by omega
    generalize LA.take m = A at HA hAL
    generalize LB.take m = B at HB hBL
    have HLL := Lib.hid (And.intro hAL hBL)
    clear hAL hBL hLA hLB hm1 hm2 hca hcb
    go_wp2_with fail
    refine (vec18_any H4.out _ A (by have := HLL.out.1; omega) (fun w' os' h' => HA.out w' os' h')).mono ?_
    rintro e w5 ⟨b5, v5, rfl, h5⟩
    have H5 := Lib.hid h5
    clear h5 H4
    go_wp2_with fail
    have henc : Calls Try.prog 10 #[.pointer (some ⟨b5, 0, none⟩), .int .i64 ((k : Int) % 9)] w5 _ := encode_vec (v := v5) (l := A) H5.out (by simp) (k % 9) (by omega) (by have := HLL.out.1; omega)
    refine henc.mono ?_
    rintro e w6 ⟨b6, v6, rfl, h6⟩
    have H6 := Lib.hid h6
    clear h6 H5 henc
    go_wp2_with fail
    refine (vec18_any H6.out _ B (by have := HLL.out.2; omega) (fun w' os' h' => HB.out w' (os' ++ [_, _]) (by simpa using h'))).mono ?_
    rintro e w7 ⟨b7, v7, rfl, h7⟩
    have H7 := Lib.hid h7
    clear h7 H6
    go_wp2_with fail
    have henc : Calls Try.prog 10 #[.pointer (some ⟨b7, 0, none⟩), .int .i64 ((k : Int) % 9)] w7 _ := encode_vec (v := v7) (l := B) H7.out (by simp) (k % 9) (by omega) (by have := HLL.out.2; omega)
    refine henc.mono ?_
    rintro e w8 ⟨b8, v8, rfl, h8⟩
    have H8 := Lib.hid h8
    clear h8 H7 henc
    go_wp2_with fail
    refine (vec18_any H8.out _ A (by have := HLL.out.1; omega) (fun w' os' h' => HA.out w' (os' ++ [_, _, _, _]) (by simpa using h'))).mono ?_
    rintro e w9 ⟨b9, v9, rfl, h9⟩
    have H9 := Lib.hid h9
    clear h9 H8
    go_wp2_with fail
    have henc : Calls Try.prog 10 #[.pointer (some ⟨b9, 0, none⟩), .int .i64 ((j : Int) % 9)] w9 _ := encode_vec (v := v9) (l := A) H9.out (by simp) (j % 9) (by omega) (by have := HLL.out.1; omega)
    refine henc.mono ?_
    rintro e w10 ⟨b10, v10, rfl, h10⟩
    have H10 := Lib.hid h10
    clear h10 H9 henc
    go_wp2_with fail
    have hdec : Calls Try.prog 15 #[.pointer (some ⟨b6, 0, none⟩), .int .i64 m, .int .i64 ((k : Int) % 9)] w10 _ := decode_any (b := b6) (bv := v6) (T := CoderP.code (k % 9) A) H10.out (by simp) m (k % 9) (by omega) (by omega)
    refine hdec.mono ?_
    have htold : CoderP.told (k % 9) (CoderP.code (k % 9) A) m = A := by
      have := CoderP.told_code (k % 9) A
      rwa [HLL.out.1] at this
    rw [htold]
    rintro e w11 (⟨_, b11, v11, rfl, h11⟩ | ⟨hne, _⟩)
    case inr => exact absurd rfl hne
    have H11 := Lib.hid h11
    clear h11 H10 hdec htold
    go_wp2_with fail
    have hdec : Calls Try.prog 15 #[.pointer (some ⟨b10, 0, none⟩), .int .i64 m, .int .i64 ((j : Int) % 9)] w11 _ := decode_any (b := b10) (bv := v10) (T := CoderP.code (j % 9) A) H11.out (by simp) m (j % 9) (by omega) (by omega)
    refine hdec.mono ?_
    have htold : CoderP.told (j % 9) (CoderP.code (j % 9) A) m = A := by
      have := CoderP.told_code (j % 9) A
      rwa [HLL.out.1] at this
    rw [htold]
    rintro e w12 (⟨_, b12, v12, rfl, h12⟩ | ⟨hne, _⟩)
    case inr => exact absurd rfl hne
    have H12 := Lib.hid h12
    clear h12 H11 hdec htold
    go_wp2_with fail
    refine (same_any (b := b6) (b' := b8) (v := v6) (v' := v8) (l := CoderP.code (k % 9) A) (l' := CoderP.code (k % 9) B) H12.out (by simp) (by simp)).mono ?_
    have HDD : Hid (decide (CoderP.code (k % 9) A = CoderP.code (k % 9) B) = decide (A = B)) := decide_eq_decide.2 (code_inj _ (by have := HLL.out; omega))
    rw [HDD.out]
    rintro e w13 ⟨rfl, m13, rfl⟩
    have H13 := Lib.hid (H12.out.drewN m13)
    clear H12
    generalize w12.drewN m13 = w13 at H13 ⊢
    go_wp2_with fail
    refine (vec18_any H13.out _ A (by have := HLL.out.1; omega) (fun w' os' h' => HA.out w' (os' ++ [_, _, _, _, _, _, _, _]) (by simpa using h'))).mono ?_
    rintro e w14 ⟨b14, v14, rfl, h14⟩
    have H14 := Lib.hid h14
    clear h14 H13
    go_wp2_with fail
    refine (vec18_any H14.out _ B (by have := HLL.out.2; omega) (fun w' os' h' => HB.out w' (os' ++ [_, _, _, _, _, _, _, _, _]) (by simpa using h'))).mono ?_
    rintro e w15 ⟨b15, v15, rfl, h15⟩
    have H15 := Lib.hid h15
    clear h15 H14
    go_wp2_with fail
    refine (same_any (b := b14) (b' := b15) (v := v14) (v' := v15) (l := A) (l' := B) H15.out (by simp) (by simp)).mono ?_
    rintro e w16 ⟨rfl, m16, rfl⟩
    have H16 := Lib.hid (H15.out.drewN m16)
    clear H15 HDD
    generalize w15.drewN m16 = w16 at H16 ⊢
    generalize decide (A = B) = D
    go_wp2_with fail
    refine (same_any (b := b11) (b' := b12) (v := v11) (v' := v12) (l := A) (l' := A) H16.out (by simp) (by simp)).mono ?_
    rw [decide_eq_true rfl]
    rintro e w17 ⟨rfl, m17, rfl⟩
    have H17 := Lib.hid (H16.out.drewN m17)
    go_wp2
    go_ret
    exact ⟨rfl, H17.out.bel⟩
  · go_wp2_with fail
    have hfew : Calls Try.prog 18 #[.slice a0 len0 cap0, .int .i64 ((n : Int) % 80)] w1 _ := refFew_any H1.out (.slice a0 len0 cap0) p HP.out.1 HP.out.2 (fun w' o h' => h'.arg HR0.out) (n % 80) (by omega)
    refine hfew.mono ?_
    rintro e w2 ⟨v2, rfl, h2⟩
    have hLA := fewOf_len p (n % 80)
    generalize fewOf p (n % 80) = LA at h2 hLA
    have H2 := Lib.hid h2
    clear h2 H1 hfew
    go_wp2_with fail
    have hfew : Calls Try.prog 18 #[.slice a0 len0 cap0, .int .i64 ((n : Int) % 80)] w2 _ := refFew_any H2.out (.slice a0 len0 cap0) p HP.out.1 HP.out.2 (fun w' o h' => h'.arg HR0.out) (n % 80) (by omega)
    refine hfew.mono ?_
    rintro e w3 ⟨v3, rfl, h3⟩
    have hLB := fewOf_len p (n % 80)
    generalize fewOf p (n % 80) = LB at h3 hLB
    obtain ⟨aa, ca, rfl, hca, hcma⟩ := ownsRow_slice h3.swap.row
    obtain ⟨ab, cb, rfl, hcb, hcmb⟩ := ownsRow_slice h3.row
    rw [intsOf_len, bitsOf_len] at h3 hca hcb ⊢
    rw [intsOf_len, bitsOf_len] at h3 ⊢
    have H3 := Lib.hid h3
    clear h3 H2 hfew HR0 HR1 HP HQ
    have hca64 : ca ≤ 9223372036854775807 := by unfold maxLen at hcma; omega
    have hcb64 : cb ≤ 9223372036854775807 := by unfold maxLen at hcmb; omega
    clear hcma hcmb
    obtain ⟨m, hm1, hm2, hmin⟩ : ∃ m : Nat, m ≤ LA.length ∧ m ≤ LB.length ∧ ∀ w, (Builtin.min_ #[3, 3] 3 #[.int .i64 LA.length, .int .i64 LB.length]).run Try.prog w = .ok (.int .i64 m) w := by
      refine ⟨min LA.length LB.length, by omega, by omega, fun w => ?_⟩
      rw [run_min2]
      congr 2
      split <;> omega
    go_wp2_with fail
    go_quiet (fail)
    have H4 := Lib.hid (H3.out.drewN nq)
    clear H3
    generalize w3.drewN nq = w4 at H4 ⊢
    clear hmin
    have HA : Hid (∀ w' os', St w w' (os' ++ (rowT 3 (.slice ab LB.length cb) (intsOf (bitsOf LB)) :: rowT 3 (.slice aa LA.length ca) (intsOf (bitsOf LA)) :: [])) → Reads w' (.slice aa m ca) (intsOf (bitsOf (LA.take m)))) := fun w' os' h' => by
      rw [← intsOf_take]; exact (h'.reads (E := 3) (v := .slice aa LA.length ca) (by simp)).take m hm1
    have HB : Hid (∀ w' os', St w w' (os' ++ (rowT 3 (.slice ab LB.length cb) (intsOf (bitsOf LB)) :: rowT 3 (.slice aa LA.length ca) (intsOf (bitsOf LA)) :: [])) → Reads w' (.slice ab m cb) (intsOf (bitsOf (LB.take m)))) := fun w' os' h' => by
      rw [← intsOf_take]; exact (h'.reads (E := 3) (v := .slice ab LB.length cb) (by simp)).take m hm2
    have hAL : (LA.take m).length = m := by rw [List.length_take]; omega
    have hBL : (LB.take m).length = m := by rw [List.length_take]; omega
    obtain ⟨OS, hOS⟩ : ∃ OS, rowT 3 (.slice ab LB.length cb) (intsOf (bitsOf LB)) :: rowT 3 (.slice aa LA.length ca) (intsOf (bitsOf LA)) :: [] = OS := ⟨_, rfl⟩
    rw [hOS] at HA HB H4
    clear hOS
    have hm80 : m < 80 := by omega
    generalize LA.take m = A at HA hAL
    generalize LB.take m = B at HB hBL
    have HLL := Lib.hid (And.intro hAL hBL)
    clear hAL hBL hLA hLB hm1 hm2 hca hcb
    go_wp2_with fail
    refine (vec18_any H4.out _ A (by have := HLL.out.1; omega) (fun w' os' h' => HA.out w' os' h')).mono ?_
    rintro e w5 ⟨b5, v5, rfl, h5⟩
    have H5 := Lib.hid h5
    clear h5 H4
    go_wp2_with fail
    have henc : Calls Try.prog 10 #[.pointer (some ⟨b5, 0, none⟩), .int .i64 ((k : Int) % 9)] w5 _ := encode_vec (v := v5) (l := A) H5.out (by simp) (k % 9) (by omega) (by have := HLL.out.1; omega)
    refine henc.mono ?_
    rintro e w6 ⟨b6, v6, rfl, h6⟩
    have H6 := Lib.hid h6
    clear h6 H5 henc
    go_wp2_with fail
    refine (vec18_any H6.out _ B (by have := HLL.out.2; omega) (fun w' os' h' => HB.out w' (os' ++ [_, _]) (by simpa using h'))).mono ?_
    rintro e w7 ⟨b7, v7, rfl, h7⟩
    have H7 := Lib.hid h7
    clear h7 H6
    go_wp2_with fail
    have henc : Calls Try.prog 10 #[.pointer (some ⟨b7, 0, none⟩), .int .i64 ((k : Int) % 9)] w7 _ := encode_vec (v := v7) (l := B) H7.out (by simp) (k % 9) (by omega) (by have := HLL.out.2; omega)
    refine henc.mono ?_
    rintro e w8 ⟨b8, v8, rfl, h8⟩
    have H8 := Lib.hid h8
    clear h8 H7 henc
    go_wp2_with fail
    refine (vec18_any H8.out _ A (by have := HLL.out.1; omega) (fun w' os' h' => HA.out w' (os' ++ [_, _, _, _]) (by simpa using h'))).mono ?_
    rintro e w9 ⟨b9, v9, rfl, h9⟩
    have H9 := Lib.hid h9
    clear h9 H8
    go_wp2_with fail
    have henc : Calls Try.prog 10 #[.pointer (some ⟨b9, 0, none⟩), .int .i64 ((j : Int) % 9)] w9 _ := encode_vec (v := v9) (l := A) H9.out (by simp) (j % 9) (by omega) (by have := HLL.out.1; omega)
    refine henc.mono ?_
    rintro e w10 ⟨b10, v10, rfl, h10⟩
    have H10 := Lib.hid h10
    clear h10 H9 henc
    go_wp2_with fail
    have hdec : Calls Try.prog 15 #[.pointer (some ⟨b6, 0, none⟩), .int .i64 m, .int .i64 ((k : Int) % 9)] w10 _ := decode_any (b := b6) (bv := v6) (T := CoderP.code (k % 9) A) H10.out (by simp) m (k % 9) (by omega) (by omega)
    refine hdec.mono ?_
    have htold : CoderP.told (k % 9) (CoderP.code (k % 9) A) m = A := by
      have := CoderP.told_code (k % 9) A
      rwa [HLL.out.1] at this
    rw [htold]
    rintro e w11 (⟨_, b11, v11, rfl, h11⟩ | ⟨hne, _⟩)
    case inr => exact absurd rfl hne
    have H11 := Lib.hid h11
    clear h11 H10 hdec htold
    go_wp2_with fail
    have hdec : Calls Try.prog 15 #[.pointer (some ⟨b10, 0, none⟩), .int .i64 m, .int .i64 ((j : Int) % 9)] w11 _ := decode_any (b := b10) (bv := v10) (T := CoderP.code (j % 9) A) H11.out (by simp) m (j % 9) (by omega) (by omega)
    refine hdec.mono ?_
    have htold : CoderP.told (j % 9) (CoderP.code (j % 9) A) m = A := by
      have := CoderP.told_code (j % 9) A
      rwa [HLL.out.1] at this
    rw [htold]
    rintro e w12 (⟨_, b12, v12, rfl, h12⟩ | ⟨hne, _⟩)
    case inr => exact absurd rfl hne
    have H12 := Lib.hid h12
    clear h12 H11 hdec htold
    go_wp2_with fail
    refine (same_any (b := b6) (b' := b8) (v := v6) (v' := v8) (l := CoderP.code (k % 9) A) (l' := CoderP.code (k % 9) B) H12.out (by simp) (by simp)).mono ?_
    have HDD : Hid (decide (CoderP.code (k % 9) A = CoderP.code (k % 9) B) = decide (A = B)) := decide_eq_decide.2 (code_inj _ (by have := HLL.out; omega))
    rw [HDD.out]
    rintro e w13 ⟨rfl, m13, rfl⟩
    have H13 := Lib.hid (H12.out.drewN m13)
    clear H12
    generalize w12.drewN m13 = w13 at H13 ⊢
    go_wp2_with fail
    refine (vec18_any H13.out _ A (by have := HLL.out.1; omega) (fun w' os' h' => HA.out w' (os' ++ [_, _, _, _, _, _, _, _]) (by simpa using h'))).mono ?_
    rintro e w14 ⟨b14, v14, rfl, h14⟩
    have H14 := Lib.hid h14
    clear h14 H13
    go_wp2_with fail
    refine (vec18_any H14.out _ B (by have := HLL.out.2; omega) (fun w' os' h' => HB.out w' (os' ++ [_, _, _, _, _, _, _, _, _]) (by simpa using h'))).mono ?_
    rintro e w15 ⟨b15, v15, rfl, h15⟩
    have H15 := Lib.hid h15
    clear h15 H14
    go_wp2_with fail
    refine (same_any (b := b14) (b' := b15) (v := v14) (v' := v15) (l := A) (l' := B) H15.out (by simp) (by simp)).mono ?_
    rintro e w16 ⟨rfl, m16, rfl⟩
    have H16 := Lib.hid (H15.out.drewN m16)
    clear H15 HDD
    generalize w15.drewN m16 = w16 at H16 ⊢
    generalize decide (A = B) = D
    go_wp2_with fail
    refine (same_any (b := b11) (b' := b12) (v := v11) (v' := v12) (l := A) (l' := A) H16.out (by simp) (by simp)).mono ?_
    rw [decide_eq_true rfl]
    rintro e w17 ⟨rfl, m17, rfl⟩
    have H17 := Lib.hid (H16.out.drewN m17)
    go_wp2
    go_ret
    exact ⟨rfl, H17.out.bel⟩
end Go.Proofs.Ytcddgcklapinjaa

