/- The walk of LabelWidths. -/
import Derived.Test.YtoipbbobkllddaaLabelHelp
import Derived.Lib.ItoaNum
import Derived.Deep.Cut
namespace Go.Proofs.Ytoipbbobkllddaa
open Go.RowKit

theorem width_bounds (n : Nat) (h2 : 2 ≤ n) (h : n ≤ 1099511627776) : 1 ≤ widthN n ∧ widthN n ≤ 41 ∧ n ≤ 2 ^ widthN n ∧ 2 ^ (widthN n - 1) < n := by
  have hw : widthN n = Lib.bitLen (n - 1) := by unfold widthN; rw [if_neg (by omega)]
  rw [hw]
  have hb := Lib.bitLenAux_bounds 64 (n - 1) (by omega) (by omega)
  have hl := Lib.bitLen_le (n - 1) 41 (by decide) (by omega)
  obtain ⟨h3, h4, h5⟩ := hb
  unfold Lib.bitLen at hl ⊢
  exact ⟨h3, hl, by omega, by omega⟩

theorem St.dropF {w0 w : World} {os : List Thing} : ∀ (OS : List Thing), St w0 w (OS ++ os) → St w0 w os
  | [], h => h
  | _ :: OS, h => St.dropF OS h.tail

theorem wrap_pow (K : Nat) (h : K ≤ 41) : wrap64 ((2 : Int) ^ K) = ((2 ^ K : Nat) : Int) := by
  have e : ((2 : Int) ^ K) = ((2 ^ K : Nat) : Int) := by simp
  have hb : 2 ^ K ≤ 2 ^ 41 := Nat.pow_le_pow_right (by decide) h
  rw [e]
  generalize 2 ^ K = P at hb ⊢
  unfold wrap64
  omega

set_option maxRecDepth 100000 in
set_option maxHeartbeats 4000000 in
theorem labelWidths_walk (a0 : Int) (a1 : Option Addr) (len1 cap1 : Nat) (z1 : List Int) (w : World) (w0 : (Lit.int .i64 a0).wf = true) (w1 : IsRow .i64 w a1 len1 cap1 z1) :
    Calls Try.prog 3 #[.int .i64 a0, .slice a1 len1 cap1] w fun e w' => e = .returned (.bool true) ∧ Below w.heap.size w w' := by
  have hb0 := wf_i64 w0
  obtain ⟨r1, r2, r3, r4, r5⟩ := w1.reads
  have H := Lib.hid (St.start w)
  obtain ⟨mn, hmn⟩ : ∃ mn : Int, min a0 1099511627776 = mn := ⟨_, rfl⟩
  have hminA : ∀ w, (Builtin.min_ #[3, 3] 3 #[.int .i64 a0, .int .i64 1099511627776]).run Try.prog w = .ok (.int .i64 mn) w := fun w => by
    rw [run_min2]
    congr 2
    split <;> omega
  have hmb : mn ≤ 1099511627776 ∧ -9223372036854775808 ≤ mn := by omega
  obtain ⟨m, hm, hm1, hm2⟩ : ∃ m, m = min len1 12 ∧ m ≤ len1 ∧ m ≤ 12 := ⟨_, rfl, by omega, by omega⟩
  have hmin : ∀ w, (Builtin.min_ #[3, 3] 3 #[.int .i64 len1, .int .i64 12]).run Try.prog w = .ok (.int .i64 m) w := fun w => by
    rw [run_min2]
    congr 2
    split <;> omega
  have hlc := r1.len_le
  have hcm : cap1 ≤ 9223372036854775807 := by
    obtain ⟨_, _, he, _, hm, _⟩ := r1
    simp only [Value.slice.injEq] at he
    obtain ⟨_, _, rfl⟩ := he
    unfold maxLen at hm; omega
  obtain ⟨xs, hxs⟩ : ∃ xs, (z1.take len1).take m = xs := ⟨_, rfl⟩
  have hxl : xs.length = m := by rw [← hxs, List.length_take, r2]; omega
  have HR : Hid (Reads w (.slice a1 m cap1) (intsOf xs)) := by
    show Reads _ _ _
    have := r1.take m hm1
    rw [← hxs]
    unfold intsOf
    rw [List.map_take]
    exact this
  have HXL := Lib.hid hxl
  clear r1 r2 r3 r4 r5 w0 w1 hm hxs hmn
  go_enter Try.func3, Try.ntmps3
  go_wp2_with fail
  refine (awake20_any H.out).mono ?_
  rintro e w1 ⟨rfl, h1⟩
  have H1 := Lib.hid h1
  clear h1 H
  go_wp2_with fail
  refine (width_any mn (by omega) (by omega) w1).mono ?_
  rintro e w2 ⟨rfl, rfl⟩
  obtain ⟨K, hK⟩ : ∃ K, widthN mn.toNat = K := ⟨_, rfl⟩
  rw [hK]
  go_upto_region 5 with fail
  go_cut [42] from 14 (fun tv wx => tv = .bool false ∧ wx = w1)
  case first =>
    by_cases hsmall : mn < 2
    · have hK0 : K = 0 := by rw [← hK]; unfold widthN; rw [if_pos (by omega)]
      subst hK0
      clear hK
      go_wp2_with fail
      go_meet
      exact ⟨rfl, by first | rfl | trivial⟩
    · obtain ⟨n, rfl⟩ : ∃ n : Nat, mn = n := ⟨mn.toNat, by omega⟩
      obtain ⟨b1, b2, b3, b4⟩ := width_bounds n (by omega) (by omega)
      rw [Int.toNat_natCast] at hK
      rw [hK] at b1 b2 b3 b4
      obtain ⟨k, rfl⟩ : ∃ k, K = k + 1 := ⟨K - 1, by omega⟩
      rw [Nat.add_sub_cancel] at b4
      have d1 : decide (wrap64 ((2 : Int) ^ (k + 1)) < (n : Int)) = false := decide_eq_false (by rw [wrap_pow (k + 1) b2]; omega)
      have d2 : decide ((n : Int) ≤ wrap64 ((2 : Int) ^ k)) = false := decide_eq_false (by rw [wrap_pow k (by omega)]; omega)
      clear hK b3 b4
      go_wp2_with fail
      go_meet
      exact ⟨rfl, by first | rfl | trivial⟩
  case rest =>
    obtain ⟨rfl, hw⟩ := hcut
    subst hw
    go_wp2_with fail
    have hcl := cloneInts_any (.slice a1 m cap1) (intsOf xs) wc (H1.out.arg HR.out) (ints_oneCell xs) (by rw [intsOf_len]; omega)
    refine hcl.mono ?_
    rintro e w2 ⟨v2, rfl, ho, hk⟩
    obtain ⟨a2, c2, rfl, _, _⟩ := ownsRow_slice ho
    rw [intsOf_len, hxl] at ho ⊢
    have H2 := Lib.hid (H1.out.newRow hk ho)
    have HP := Lib.hid (permOf_any H2.out (.slice a2 m c2) xs (by omega) (fun w' os' h' => h'.reads (E := 3) (by simp)))
    have HG := Lib.hid (fun W => labEnc_nil W)
    clear ho hk hcl hxl hmin
    go_wp2_with fail
    refine HP.out.mono ?_
    rintro e w3 (⟨hip, p, v, rfl, hS⟩ | ⟨hip, rfl, hS⟩)
    · have H3 := Lib.hid hS
      have HE := Lib.hid (labEnc_any hS p v xs (by simp) (by simp) hip (by rw [HXL.out]; omega))
      have HIP := Lib.hid hip
      clear hS HP hip
      go_wp2_with fail
      refine HE.out.mono ?_
      rintro e w4 hlo
      have hlo2 : ∃ (pv : Value) (f : Int), e = .returned (.tuple #[pv, .int .i64 f]) ∧ St w w4 [rowT 3 (.slice a2 m c2) (intsOf xs)] ∧ ((f = 0 ∧ Mates xs) ∨ (f = 4 ∧ ¬ Mates xs)) := by
        rcases hlo with ⟨h1, h2, b, vv, rfl, h3⟩ | ⟨hn, rfl, OS, h3⟩
        · exact ⟨_, 0, rfl, h3.tail.tail.tail, .inl ⟨rfl, (mates_iff xs HIP.out h1).2 h2⟩⟩
        · exact ⟨_, 4, rfl, (St.dropF OS h3).tail.tail, .inr ⟨rfl, fun h => hn ⟨h.2.1, (mates_iff xs HIP.out h.2.1).1 h⟩⟩⟩
      obtain ⟨pv, f, rfl, hS4, hf⟩ := hlo2
      have H4 := Lib.hid hS4
      have HF := Lib.hid hf
      clear hlo hS4 hf HE H3
      go_wp2_with fail
      refine (HG.out w4).mono ?_
      rintro e w5 ⟨rfl, rfl⟩
      have HDN := Lib.hid (labDec_nil H4.out)
      go_wp2_with fail
      refine HDN.out.mono ?_
      rintro e w5 ⟨p5, v5, rfl, h5⟩
      obtain ⟨a5, c5, rfl, _, _⟩ := ownsRow_slice h5.swap.row
      have hc5 : w5.cell? ⟨p5, 0, none⟩ = some (.slice a5 0 c5) := h5.permAt (List.mem_cons_self ..)
      have HLN := Lib.hid (permLen_any hc5)
      have HMT := Lib.hid (refMates_any (.slice a2 m c2) xs w5 (h5.reads (E := 3) (by simp)) (by rw [HXL.out]; omega))
      have H5 := Lib.hid h5
      clear h5 HDN H4 hc5
      go_wp2_with fail
      refine HLN.out.mono ?_
      rintro e w6 ⟨rfl, rfl⟩
      rcases HF.out with ⟨rfl, hM⟩ | ⟨rfl, hM⟩
      · have HM := Lib.hid hM
        clear hM HF
        go_wp2_with fail
        refine HMT.out.mono ?_
        rintro e w7 ⟨r, rfl, hr, hk⟩
        obtain rfl : r = true := hr.2 HM.out
        have H7 := Lib.hid (H5.out.same hk)
        clear hr hk
        go_wp2_with fail
        go_ret
        exact ⟨rfl, H7.out.bel⟩
      · have HM := Lib.hid hM
        clear hM HF
        go_wp2_with fail
        refine HMT.out.mono ?_
        rintro e w7 ⟨r, rfl, hr, hk⟩
        obtain rfl : r = false := by cases r; rfl; exact absurd (hr.1 rfl) HM.out
        have H7 := Lib.hid (H5.out.same hk)
        clear hr hk
        go_wp2_with fail
        go_ret
        exact ⟨rfl, H7.out.bel⟩
    · have H3 := Lib.hid hS
      clear hS HP hip
      go_wp2_with fail
      refine (HG.out w3).mono ?_
      rintro e w4 ⟨rfl, rfl⟩
      go_wp2_with fail
      refine (HG.out w3).mono ?_
      rintro e w4 ⟨rfl, rfl⟩
      have HDN := Lib.hid (labDec_nil H3.out)
      go_wp2_with fail
      refine HDN.out.mono ?_
      rintro e w5 ⟨p5, v5, rfl, h5⟩
      obtain ⟨a5, c5, rfl, _, _⟩ := ownsRow_slice h5.swap.row
      have hc5 : w5.cell? ⟨p5, 0, none⟩ = some (.slice a5 0 c5) := h5.permAt (List.mem_cons_self ..)
      have HLN := Lib.hid (permLen_any hc5)
      have H5 := Lib.hid h5
      clear h5 HDN H3 hc5
      go_wp2_with fail
      refine HLN.out.mono ?_
      rintro e w6 ⟨rfl, rfl⟩
      go_wp2_with fail
      go_ret
      exact ⟨rfl, H5.out.bel⟩
end Go.Proofs.Ytoipbbobkllddaa

