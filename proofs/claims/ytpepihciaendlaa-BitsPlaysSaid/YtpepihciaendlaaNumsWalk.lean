/- The walk of BitsNums. -/
import Derived.Test.YtpepihciaendlaaRefNum
import Derived.Test.YtpepihciaendlaaReadsWalk
namespace Go.Proofs.Ytpepihciaendlaa
open Go.RowKit

set_option maxRecDepth 100000 in
set_option maxHeartbeats 4000000 in
theorem bitsNums_walk (a0 : Int) (a1 : Int) (a2 : Int) (w : World) (w0 : (Lit.int .u64 a0).wf = true) (w1 : (Lit.int .u8 a1).wf = true) (w2 : (Lit.int .u8 a2).wf = true) :
    Calls Try.prog 4 #[.int .u64 a0, .int .u8 a1, .int .u8 a2] w fun e w' => e = .returned (.bool true) ∧ Below w.heap.size w w' := by
  obtain ⟨x1, x1'⟩ := wf_u64 w0
  obtain ⟨x, rfl⟩ := Int.eq_ofNat_of_zero_le x1
  obtain ⟨y1, y1'⟩ := wf_u8 w1
  obtain ⟨kk, rfl⟩ := Int.eq_ofNat_of_zero_le y1
  obtain ⟨z1, z1'⟩ := wf_u8 w2
  obtain ⟨at', rfl⟩ := Int.eq_ofNat_of_zero_le z1
  have hx : x < 18446744073709551616 := by omega
  clear w0 w1 w2 x1 x1' y1 z1
  obtain ⟨n, hn⟩ : ∃ n, n = kk % 65 := ⟨_, rfl⟩
  have hn64 : n ≤ 64 := by omega
  obtain ⟨m, hm⟩ : ∃ m, m = at' % (n + 1) := ⟨_, rfl⟩
  have hmn : m ≤ n := by have := Nat.mod_lt at' (show 0 < n + 1 by omega); omega
  have en : ((kk : Int) % 65) = (n : Int) := by omega
  have em : ((at' : Int) % ((n : Int) + 1)) = (m : Int) := by rw [hm]; simp
  obtain ⟨s1, hs1⟩ : ∃ s, s = min m 63 := ⟨_, rfl⟩
  obtain ⟨s2, hs2⟩ : ∃ s, s = m - 63 := ⟨_, rfl⟩
  have hmin : ∀ w, (Builtin.min_ #[3, 3] 3 #[.int .i64 m, .int .i64 63]).run Try.prog w = .ok (.int .i64 s1) w := fun w => by
    simp [Builtin.min_, Builtin.min2]
    omega
  have hmax : ∀ w, (Builtin.max_ #[3, 3] 3 #[.int .i64 ((m : Int) - 63), .int .i64 0]).run Try.prog w = .ok (.int .i64 s2) w := fun w => by
    simp [Builtin.max_, Builtin.max2]
    omega
  have hs12 : s1 + s2 = m := by omega
  have hs1l : s1 < 64 := by omega
  have hs2l : s2 < 64 := by omega
  have H := Lib.hid (St.start w)
  have HX := Lib.hid hx
  have HS12 := Lib.hid hs12
  clear hs12 hs1 hs2 hn hm
  go_enter Try.func4, Try.ntmps4
  go_wp2_with fail
  refine (awake_any H.out).mono ?_
  rintro e w1 ⟨rfl, h1⟩
  have H1 := Lib.hid h1
  clear h1 H
  go_wp2_with fail
  refine (bitsNew_any H1.out).mono ?_
  rintro e w2 ⟨b, rfl, h2, _⟩
  have H2 := Lib.hid h2
  clear h2 H1
  go_wp2_with fail
  refine (bitsNew_any H2.out).mono ?_
  rintro e w3 ⟨b2, rfl, h3, _⟩
  have H3 := Lib.hid h3.swap
  clear h3 H2
  go_wp2_with fail
  refine (vecNum_any H3.out x n HX.out (by decide)).mono ?_
  rintro e w4 ⟨rfl, v4, h4⟩
  rw [clamp_nat n hn64, List.nil_append] at h4
  have H4 := Lib.hid h4.swap
  clear h4 H3
  go_wp2_with fail
  refine (vecNum_any H4.out x m HX.out (by decide)).mono ?_
  rintro e w5 ⟨rfl, v5, h5⟩
  rw [clamp_nat m (by omega), List.nil_append] at h5
  have H5 := Lib.hid h5
  clear h5 H4
  go_wp2_with fail
  have hq : x / 2 ^ m < 18446744073709551616 := Nat.lt_of_le_of_lt (Nat.div_le_self _ _) hx
  rw [show ((x : Int) / 2 ^ s1 / 2 ^ s2) = ((x / 2 ^ m : Nat) : Int) by rw [← HS12.out, Nat.pow_add, ← Nat.div_div_eq_div_mul]; simp, show ((n : Int) - (m : Int)) = ((n - m : Nat) : Int) by omega]
  refine (vecNum_any H5.out (x / 2 ^ m) ((n - m : Nat) : Int) hq (by rw [numBits_len]; omega)).mono ?_
  rintro e w6 ⟨rfl, v6, h6⟩
  rw [clamp_nat (n - m) (by omega), ← numBits_split x n m hmn] at h6
  have hL := numBits_len x n
  have HRN : Hid (∀ w' os', St w w' os' → Calls Try.prog 20 #[.int .u64 x, .int .i64 n] w' fun e w'' => ∃ v, e = .returned v ∧ St w w'' (rowT 3 v (intsOf (bitsOf (numBits x n))) :: os')) := fun w' os' h' => by
    have := refNum_any h' x hx (n : Int)
    rwa [clamp_nat n hn64] at this
  generalize numBits x n = L at h6 hL HRN
  have H6 := Lib.hid h6
  clear h6 H5 hmin hmax hq
  go_wp2_with fail
  refine (read_any (v := v4) (l := L) H6.out (by simp) (by omega)).mono ?_
  rintro e w7 ⟨r, c, v7, rfl, h7⟩
  have H7 := Lib.hid h7
  clear h7 H6
  go_wp2_with fail
  refine (readerNum_any H7.out m (by omega) (by omega) (by rw [clamp_nat m (by omega)]; omega)).mono ?_
  rw [clamp_nat m (by omega), Nat.zero_add, List.drop_zero]
  rintro e w8 ⟨rfl, h8⟩
  have H8 := Lib.hid h8
  clear h8 H7
  go_wp2_with fail
  rw [show ((n : Int) - (m : Int)) = ((n - m : Nat) : Int) by omega]
  refine (readerNum_any H8.out ((n - m : Nat) : Int) (by omega) (by omega) (by rw [clamp_nat (n - m) (by omega)]; omega)).mono ?_
  rw [clamp_nat (n - m) (by omega)]
  rintro e w9 ⟨rfl, h9⟩
  have H9 := Lib.hid h9
  clear h9 H8
  go_wp2_with fail
  refine (HRN.out _ _ H9.out).mono ?_
  rintro e w10 ⟨v, rfl, h10⟩
  obtain ⟨a, cap, rfl, hcap, hcm⟩ := ownsRow_slice h10.row
  rw [intsOf_len, bitsOf_len, hL] at h10 hcap ⊢
  have H10 := Lib.hid h10
  clear h10 H9
  go_wp2_with fail
  refine (same_any (b := b) (b' := b2) (v := v4) (v' := v6) (l := L) (l' := L) H10.out (by simp) (by simp)).mono ?_
  rintro e w11 ⟨rfl, dd, rfl⟩
  rw [show (decide (L = L)) = true by simp]
  have H11 := Lib.hid (H10.out.drewN dd)
  clear H10
  generalize w10.drewN dd = W at H11 ⊢
  go_wp2_with fail
  refine (vecLen_any (v := v4) (l := L) H11.out (by simp)).mono ?_
  rintro e w12 ⟨rfl, rfl⟩
  rw [hL]
  go_wp2_with fail
  have HR : Hid (Reads W (.slice a n cap) (intsOf (bitsOf L))) := H11.out.reads1
  have HA : Hid (a = none ∨ ∃ g o, a = some ⟨g, o, none⟩) := by
    rcases (H11.out.rowN (n := n) (by rw [intsOf_len, bitsOf_len, hL])).2 with ⟨he, _⟩ | ⟨g, cap, cur, he, _⟩
    · simp only [Value.slice.injEq] at he; exact .inl he.1
    · simp only [Value.slice.injEq] at he; exact .inr ⟨g, 0, he.1⟩
  have R1 : Reads W (.slice a m cap) (intsOf (bitsOf (L.take m))) := by
    rw [← intsOf_take]
    exact HR.out.take m hmn
  refine (refValue_any (.slice a m cap) (L.take m) W R1 (by rw [List.length_take]; omega)).mono ?_
  rintro e w13 ⟨rfl, rfl⟩
  clear R1
  obtain ⟨q1, hq1⟩ : ∃ q, BitsP.num (L.take m) = q := ⟨_, rfl⟩
  rw [hq1]
  clear hq1
  have hcap64 : cap ≤ 9223372036854775807 := by unfold maxLen at hcm; omega
  by_cases hcn : cap = m
  · subst hcn
    have hnm : n = cap := by omega
    subst hnm
    have hd : L.drop n = [] := List.drop_eq_nil_of_le (by omega)
    rw [hd]
    have R2 : Reads W (.slice a 0 0) (intsOf (bitsOf [])) := ⟨a, 0, rfl, Nat.le_refl _, by decide, fun _ => rfl, .inl rfl⟩
    have R2 := Lib.hid R2
    go_wp2_with fail
    refine (refValue_any _ [] W R2.out (by decide)).mono ?_
    rintro e w14 ⟨rfl, rfl⟩
    go_wp2_with fail
    refine (readerLeft_any (r := r) (c := c) (n := n) (at' := n + (n - n)) H11.out (by simp) (by omega) (by omega)).mono ?_
    rw [show n - (n + (n - n)) = 0 by omega]
    rintro e w15 ⟨rfl, hk15⟩
    have H12 := Lib.hid (H11.out.same hk15)
    clear hk15 H11
    go_wp2
    go_ret
    exact ⟨rfl, H12.out.bel⟩
  · rcases HA.out with rfl | ⟨g, o, rfl⟩
    · exfalso
      obtain ⟨_, _, he, _, _, hz, _⟩ := HR.out
      simp only [Value.slice.injEq] at he
      obtain ⟨he1, _, rfl⟩ := he
      have := hz he1.symm
      omega
    have R2 : Hid (Reads W (.slice (some ⟨g, o + m, none⟩) (n - m) (cap - m)) (intsOf (bitsOf (L.drop m)))) := by
      have := HR.out.drop m hmn
      rw [intsOf_drop] at this
      exact this
    go_wp2_with fail
    refine (refValue_any _ (L.drop m) W R2.out (by rw [List.length_drop]; omega)).mono ?_
    rintro e w14 ⟨rfl, rfl⟩
    have ht : (L.drop m).take (n - m) = L.drop m := List.take_of_length_le (by rw [List.length_drop]; omega)
    rw [ht]
    obtain ⟨q2, hq2⟩ : ∃ q, BitsP.num (L.drop m) = q := ⟨_, rfl⟩
    rw [hq2]
    clear hq2 ht
    go_wp2_with fail
    refine (readerLeft_any (r := r) (c := c) (n := n) (at' := m + (n - m)) H11.out (by simp) (by omega) (by omega)).mono ?_
    rw [show n - (m + (n - m)) = 0 by omega]
    rintro e w15 ⟨rfl, hk15⟩
    have H12 := Lib.hid (H11.out.same hk15)
    clear hk15 H11
    go_wp2
    go_ret
    exact ⟨rfl, H12.out.bel⟩
end Go.Proofs.Ytpepihciaendlaa

