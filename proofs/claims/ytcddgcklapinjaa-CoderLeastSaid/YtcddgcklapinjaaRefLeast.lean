/- The document's Least. -/
import Derived.Test.YtcddgcklapinjaaLeast
import Derived.Test.YtcddgcklapinjaaRef18
namespace Go.Proofs.Ytcddgcklapinjaa
open Go.RowKit

set_option maxRecDepth 100000 in
set_option maxHeartbeats 2000000 in
theorem refLeast_any {w0 w : World} {os : List Thing} (h : St w0 w os) (sv : Value) (l : List Bool) (hl : l.length < 16777216)
    (hv : ∀ w' os', St w0 w' (os' ++ os) → Reads w' sv (intsOf (bitsOf l))) :
    Calls Try.prog 22 #[sv] w fun e w' => ∃ v, e = .returned (.tuple #[.int .i64 ((CoderP.leastK l 8).1 : Nat), v]) ∧ St w0 w' (rowT 3 v (intsOf (bitsOf (CoderP.leastK l 8).2)) :: os) := by
  have H := Lib.hid h
  have e1 : ∀ (o : Thing) (os' : List Thing), os' ++ o :: os = (os' ++ [o]) ++ os := fun o os' => by simp
  have HC : Hid (∀ (o : Thing) (W : World) (k : Nat), k ≤ 8 → St w0 W (o :: os) → Calls Try.prog 14 #[sv, .int .i64 k] W fun e w' => ∃ v, e = .returned v ∧ St w0 w' (rowT 3 v (intsOf (bitsOf (CoderP.code k l))) :: o :: os)) := by
    intro o W k hk hW
    exact ref18_any hW sv l k hk hl (fun W os' h' => hv W (os' ++ [o]) (by rw [← e1]; exact h'))
  have HC0 : Hid (∀ (W : World), St w0 W os → Calls Try.prog 14 #[sv, .int .i64 0] W fun e w' => ∃ v, e = .returned v ∧ St w0 w' (rowT 3 v (intsOf (bitsOf (CoderP.code 0 l))) :: os)) := by
    intro W hW
    exact ref18_any hW sv l 0 (by decide) hl hv
  clear h hv e1
  go_enter Try.func22, Try.ntmps22
  go_wp2_with fail
  refine (HC0.out w H.out).mono ?_
  rintro e w1 ⟨v1, rfl, S1⟩
  have S1 := Lib.hid S1
  clear H HC0
  go_wp2_with fail
  go_loopw [4, 5, 6] (fun bv cv kv wr => ∃ j : Nat, j ≤ 8 ∧ kv = .int .i64 ((j : Int) + 1) ∧ bv = .int .i64 ((CoderP.leastK l j).1 : Nat) ∧ St w0 wr (rowT 3 cv (intsOf (bitsOf (CoderP.leastK l j).2)) :: os)) (fun _ _ kv _ => 9 - (intOf kv).toNat)
  case atStart => exact ⟨0, by omega, rfl, rfl, S1.out⟩
  case round =>
    obtain ⟨j, hj, rfl, rfl, hS⟩ := hrel
    clear S1
    obtain ⟨a, cp, rfl, _, _⟩ := ownsRow_slice hS.row
    rw [intsOf_len, bitsOf_len] at hS ⊢
    obtain ⟨n1, hn1⟩ : ∃ n1, (CoderP.leastK l j).2.length = n1 := ⟨_, rfl⟩
    rw [hn1] at hS ⊢
    have HS := Lib.hid hS
    clear hS
    by_cases hlt : j < 8
    · have hc := HC.out _ wr (j + 1) (by omega) HS.out
      rw [Int.natCast_succ] at hc
      have hc := Lib.hid hc
      go_wp2_with fail
      refine hc.out.mono ?_
      rintro e w2 ⟨v2, rfl, S2⟩
      obtain ⟨a2, cp2, rfl, _, _⟩ := ownsRow_slice S2.row
      rw [intsOf_len, bitsOf_len] at S2 ⊢
      obtain ⟨n2, hn2⟩ : ∃ n2, (CoderP.code (j + 1) l).length = n2 := ⟨_, rfl⟩
      rw [hn2] at S2 ⊢
      have S2 := Lib.hid S2
      clear hc HS
      have HE : Hid (CoderP.leastK l (j + 1) = if (CoderP.code (j + 1) l).length < (CoderP.leastK l j).2.length then (j + 1, CoderP.code (j + 1) l) else CoderP.leastK l j) := rfl
      by_cases hless : n2 < n1
      · have HE2 : Hid (CoderP.leastK l (j + 1) = (j + 1, CoderP.code (j + 1) l)) := by show _ = _; rw [HE.out, if_pos (by omega)]
        clear HE
        go_wp2_with fail
        go_roundw
        case rel => exact ⟨j + 1, by omega, by go_num, by rw [HE2.out]; rfl, by rw [HE2.out]; exact S2.out.swap.tail⟩
        case measure => simp [intOf]; omega
      · have HE2 : Hid (CoderP.leastK l (j + 1) = CoderP.leastK l j) := by show _ = _; rw [HE.out, if_neg (by omega)]
        clear HE
        go_wp2_with fail
        go_roundw
        case rel => exact ⟨j + 1, by omega, by go_num, by rw [HE2.out], by rw [HE2.out]; exact S2.out.tail⟩
        case measure => simp [intOf]; omega
    · obtain rfl : j = 8 := by omega
      go_wp2_with fail
      go_ret2
      exact ⟨_, rfl, HS.out⟩
end Go.Proofs.Ytcddgcklapinjaa

