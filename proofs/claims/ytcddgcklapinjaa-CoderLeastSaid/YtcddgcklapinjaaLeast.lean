/- coder.Least, and what it finds, in plain Lean. -/
import Derived.Test.YtcddgcklapinjaaCoderHelp
namespace CoderP
/-- the order with the shortest code of the first ones, and that -/
def leastK (l : List Bool) : Nat → Nat × List Bool
  | 0 => (0, code 0 l)
  | k + 1 => if (code (k + 1) l).length < (leastK l k).2.length then (k + 1, code (k + 1) l) else leastK l k

theorem leastK_le (l : List Bool) (k o : Nat) (h : o ≤ k) : (leastK l k).2.length ≤ (code o l).length := by
  induction k with
  | zero => obtain rfl : o = 0 := by omega
            exact Nat.le_refl _
  | succ k ih =>
    unfold leastK
    by_cases ho : o = k + 1
    · subst ho; split <;> simp_all
    · have := ih (by omega)
      split
      · rename_i hl; simp only; omega
      · exact this

theorem leastK_some (l : List Bool) (k : Nat) : (leastK l k).1 ≤ k ∧ (leastK l k).2 = code (leastK l k).1 l := by
  induction k with
  | zero => exact ⟨Nat.le_refl _, rfl⟩
  | succ k ih =>
    unfold leastK
    split
    · exact ⟨Nat.le_refl _, rfl⟩
    · exact ⟨by have := ih.1; omega, ih.2⟩
end CoderP

namespace Go.Proofs.Ytcddgcklapinjaa
open Go.RowKit

theorem leastK_nil (k : Nat) : CoderP.leastK [] k = (0, [false, true]) := by
  induction k with
  | zero => unfold CoderP.leastK; rw [code_nil]
  | succ k ih => unfold CoderP.leastK; rw [ih, code_nil, if_neg (by decide)]

set_option maxRecDepth 100000 in
set_option maxHeartbeats 2000000 in
theorem least_any {w0 w : World} {os : List Thing} (h : St w0 w os) (pv : Value) (l : List Bool) (hl : l.length < 4294967296)
    (hlen : ∀ W os', St w0 W (os' ++ os) → Calls Try.prog 17 #[pv] W fun e w' => e = .returned (.int .i64 l.length) ∧ W = w')
    (hat : ∀ W os' i, i < l.length → St w0 W (os' ++ os) → Calls Try.prog 25 #[pv, .int .i64 (i : Nat)] W fun e w' => e = .returned (.int .i64 ((l.getD i false).toNat : Nat)) ∧ W = w') :
    Calls Try.prog 21 #[pv] w fun e w' => ∃ o v, e = .returned (.tuple #[.int .i64 ((CoderP.leastK l 8).1 : Nat), .pointer (some ⟨o, 0, none⟩)]) ∧ St w0 w' (vecT o v (CoderP.leastK l 8).2 :: os) := by
  have H := Lib.hid h
  have e1 : ∀ (o : Thing) (os' : List Thing), os' ++ o :: os = (os' ++ [o]) ++ os := fun o os' => by simp
  have HC : Hid (∀ (o : Thing) (W : World) (k : Nat), k ≤ 8 → St w0 W (o :: os) → Calls Try.prog 10 #[pv, .int .i64 k] W fun e w' => ∃ b v, e = .returned (.tuple #[.pointer (some ⟨b, 0, none⟩), .int .i64 0]) ∧ St w0 w' (vecT b v (CoderP.code k l) :: o :: os)) := by
    intro o W k hk hW
    exact encode_any hW pv l k hk hl (fun W os' h' => hlen W (os' ++ [o]) (by rw [← e1]; exact h')) (fun W os' i hi h' => hat W (os' ++ [o]) i hi (by rw [← e1]; exact h'))
  have HC0 : Hid (∀ (W : World), St w0 W os → Calls Try.prog 10 #[pv, .int .i64 0] W fun e w' => ∃ b v, e = .returned (.tuple #[.pointer (some ⟨b, 0, none⟩), .int .i64 0]) ∧ St w0 w' (vecT b v (CoderP.code 0 l) :: os)) := by
    intro W hW
    exact encode_any hW pv l 0 (by decide) hl hlen hat
  clear h hlen hat e1
  go_enter Try.func21, Try.ntmps21
  go_wp2_with fail
  go_loopw [4, 5, 9] (fun bv cv kv wr => ∃ k : Nat, k ≤ 9 ∧ kv = .int .i64 k ∧ ((k = 0 ∧ bv = .int .i64 0 ∧ cv = .pointer none ∧ St w0 wr os) ∨
    (∃ j b v, k = j + 1 ∧ bv = .int .i64 ((CoderP.leastK l j).1 : Nat) ∧ cv = .pointer (some ⟨b, 0, none⟩) ∧ St w0 wr (vecT b v (CoderP.leastK l j).2 :: os)))) (fun _ _ kv _ => 9 - (intOf kv).toNat)
  case atStart => exact ⟨0, by omega, rfl, .inl ⟨rfl, rfl, rfl, H.out⟩⟩
  case round =>
    obtain ⟨k, hk, rfl, h⟩ := hrel
    clear H
    rcases h with ⟨rfl, rfl, rfl, hS⟩ | ⟨j, b, v, rfl, rfl, rfl, hS⟩
    · have HS := Lib.hid hS
      clear hS
      rw [show ((0 : Nat) : Int) = 0 from rfl]
      go_wp2_with fail
      refine (HC0.out wr HS.out).mono ?_
      rintro e w2 ⟨b, v, rfl, S2⟩
      have S2 := Lib.hid S2
      clear HS
      go_wp2_with fail
      go_roundw
      case rel => exact ⟨1, by omega, rfl, .inr ⟨0, b, v, rfl, rfl, rfl, S2.out⟩⟩
      case measure => simp [intOf]
    · have HS := Lib.hid hS
      clear hS
      by_cases hlt : j + 1 < 9
      · have hc := HC.out _ wr (j + 1) (by omega) HS.out
        rw [Int.natCast_succ] at hc
        have hc := Lib.hid hc
        go_wp2_with fail
        refine hc.out.mono ?_
        rintro e w2 ⟨b2, v2, rfl, S2⟩
        have S2 := Lib.hid S2
        clear hc HS
        go_wp2_with fail
        refine (vecLen_any (b := b2) (v := v2) (l := CoderP.code (j + 1) l) S2.out (by simp)).mono ?_
        rintro e w3 ⟨rfl, rfl⟩
        go_wp2_with fail
        refine (vecLen_any (b := b) (v := v) (l := (CoderP.leastK l j).2) S2.out (by simp)).mono ?_
        rintro e w4 ⟨rfl, rfl⟩
        have HE : Hid (CoderP.leastK l (j + 1) = if (CoderP.code (j + 1) l).length < (CoderP.leastK l j).2.length then (j + 1, CoderP.code (j + 1) l) else CoderP.leastK l j) := rfl
        by_cases hless : (CoderP.code (j + 1) l).length < (CoderP.leastK l j).2.length
        · have HE2 : Hid (CoderP.leastK l (j + 1) = (j + 1, CoderP.code (j + 1) l)) := by show _ = _; rw [HE.out, if_pos hless]
          have d1 : decide (((CoderP.code (j + 1) l).length : Int) < ((CoderP.leastK l j).2.length : Int)) = true := decide_eq_true (by omega)
          clear HE
          go_wp2_with fail
          go_roundw
          case rel =>
            exact ⟨j + 1 + 1, by omega, by go_num, .inr ⟨j + 1, b2, v2, rfl, by rw [HE2.out]; rfl, rfl, by rw [HE2.out]; exact S2.out.swap.tail⟩⟩
          case measure => simp [intOf]; omega
        · have HE2 : Hid (CoderP.leastK l (j + 1) = CoderP.leastK l j) := by show _ = _; rw [HE.out, if_neg hless]
          have d1 : decide (((CoderP.code (j + 1) l).length : Int) < ((CoderP.leastK l j).2.length : Int)) = false := decide_eq_false (by omega)
          clear HE
          go_wp2_with fail
          go_roundw
          case rel =>
            exact ⟨j + 1 + 1, by omega, by go_num, .inr ⟨j + 1, b, v, rfl, by rw [HE2.out], rfl, by rw [HE2.out]; exact S2.out.tail⟩⟩
          case measure => simp [intOf]; omega
      · obtain rfl : j = 8 := by omega
        go_wp2_with fail
        go_ret2
        exact ⟨b, v, rfl, HS.out⟩
end Go.Proofs.Ytcddgcklapinjaa

