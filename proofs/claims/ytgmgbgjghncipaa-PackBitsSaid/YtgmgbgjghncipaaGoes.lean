/- The document's coder: goes; plain: the context. -/
import Derived.Test.YtgmgbgjghncipaaTold
import Derived.Test.YtgmgbgjghncipaaRefOut
import Derived.Test.YtgmgbgjghncipaaReadsWalk
import Derived.WalkMore
namespace CoderP

/-- the context behind i bits -/
def nowOf (k : Nat) (l : List Bool) : Nat → Nat
  | 0 => 0
  | i + 1 => (2 * nowOf k l i + (l.getD i false).toNat) % 2 ^ k

theorem nowOf_lt (k : Nat) (l : List Bool) : ∀ i, nowOf k l i < 2 ^ k
  | 0 => Nat.two_pow_pos k
  | i + 1 => Nat.mod_lt _ (Nat.two_pow_pos k)

theorem nowOf_bit (k : Nat) (l : List Bool) : ∀ i t, t < k → (nowOf k l i).testBit t = (decide (t < i) && l.getD (i - 1 - t) false)
  | 0, t, _ => by simp [nowOf]
  | i + 1, t, ht => by
    unfold nowOf
    rw [Nat.testBit_mod_two_pow]
    cases t with
    | zero =>
      have : (2 * nowOf k l i + (l.getD i false).toNat).testBit 0 = l.getD i false := by
        rw [Nat.testBit_zero]; cases l.getD i false <;> simp <;> omega
      rw [this]; simp [ht]
    | succ t =>
      have h2 : (2 * nowOf k l i + (l.getD i false).toNat) / 2 = nowOf k l i := by cases l.getD i false <;> simp <;> omega
      rw [Nat.testBit_succ, h2, nowOf_bit k l i t (by omega)]
      simp only [ht, decide_true, Bool.true_and]
      have e : i + 1 - 1 - (t + 1) = i - 1 - t := by omega
      rw [e]
      congr 1
      simp

/-- a step of the context, from its oldest bit -/
theorem now_step (k : Nat) (l : List Bool) (i j : Nat) (hj : j < k) : nowOf k l i / 2 ^ j = 2 * (nowOf k l i / 2 ^ (j + 1)) + (if j + 1 ≤ i then (l.getD (i - (j + 1)) false).toNat else 0) := by
  have h1 := nowOf_bit k l i j hj
  rw [Nat.testBit_eq_decide_div_mod_eq] at h1
  have h2 : nowOf k l i / 2 ^ (j + 1) = nowOf k l i / 2 ^ j / 2 := by rw [Nat.pow_succ, Nat.div_div_eq_div_mul]
  rw [h2]
  have h3 : nowOf k l i / 2 ^ j % 2 = (if j + 1 ≤ i then (l.getD (i - (j + 1)) false).toNat else 0) := by
    by_cases hi : j + 1 ≤ i
    · rw [if_pos hi, show i - (j + 1) = i - 1 - j by omega]
      rw [show decide (j < i) = true from decide_eq_true (by omega), Bool.true_and] at h1
      cases hb : l.getD (i - 1 - j) false
      · rw [hb] at h1; simp at h1; simp; omega
      · rw [hb] at h1; simp at h1; simpa using h1
    · rw [if_neg hi]
      rw [show decide (j < i) = false from decide_eq_false (by omega), Bool.false_and] at h1
      simp at h1; omega
  omega
end CoderP
namespace Go.Proofs.Ytgmgbgjghncipaa
open Go.RowKit

set_option maxHeartbeats 1000000 in
theorem goes_any {w0 w : World} {os : List Thing} {v : Value} {l : List Bool} (h : St w0 w (rowT 3 v (intsOf (bitsOf l)) :: os)) (b : Bool) (n : Nat) (hn : l.length + n < 1099511627) :
    Calls Try.prog 35 #[v, .int .i64 ((b.toNat : Nat) : Int), .int .i64 n] w fun e w' => ∃ v', e = .returned v' ∧ St w0 w' (rowT 3 v' (intsOf (bitsOf (l ++ b :: List.replicate n (!b)))) :: os) := by
  obtain ⟨i0, hi, hz0, hz1, hz2⟩ := info_parts info_i64
  have H := Lib.hid h
  have HR := Lib.hid (fun (w1 : World) (y : Int) => Reads.made w1 #[.int .i64 y] 3 (0, 0) 1 (by simp) (by decide))
  have hnb : (1 : Int) - ((b.toNat : Nat) : Int) = (((!b).toNat : Nat) : Int) := by cases b <;> rfl
  have HNB := Lib.hid hnb
  have hb2 : b.toNat < 2 := by cases b <;> decide
  have HLL : Hid ((intsOf (bitsOf l)).length = l.length) := by show _ = _; rw [intsOf_len, bitsOf_len]
  have HA1 : Hid (intsOf (bitsOf l) ++ [.int .i64 ((b.toNat : Nat) : Int)] = intsOf (bitsOf (l ++ b :: List.replicate 0 (!b)))) := by show _ = _; rw [bitsOf_append]; rfl
  clear h hnb
  go_enter Try.func35, Try.ntmps35
  go_wp2_with (at_builtin; refine wpList_append_st rfl _ _ 43 rfl 3 i0 (.int .i64 0) 8 Try.underlying43 hi hz0 hz1 hz2 rfl _ _ _ [.int .i64 ((b.toNat : Nat) : Int)] rfl (by first | rfl | simp) (H.out.alloc _) (HR.out _ _) (one_oneCell _ rfl) ?c1 ?c2 ?_)
  case c1 => simp only [HLL.out, List.length_cons, List.length_nil]; unfold maxLen; omega
  case c2 => simp only [HLL.out, List.length_cons, List.length_nil]; omega
  intro v1 w1 S1
  rw [HA1.out] at S1
  have S1 := Lib.hid S1
  clear H HA1
  go_wp2_with fail
  go_loopw [0, 7] (fun v i wr => ∃ j : Nat, j ≤ n ∧ i = .int .i64 j ∧ St w0 wr (rowT 3 v (intsOf (bitsOf (l ++ b :: List.replicate j (!b)))) :: os)) (fun _ i _ => n - (intOf i).toNat)
  case atStart => exact ⟨0, by omega, rfl, S1.out⟩
  case round =>
    obtain ⟨j, hj, rfl, hS⟩ := hrel
    have HS := Lib.hid hS
    clear hS S1
    by_cases hlt : j < n
    · have HL2 : Hid ((intsOf (bitsOf (l ++ b :: List.replicate j (!b)))).length = l.length + (j + 1)) := by show _ = _; rw [intsOf_len, bitsOf_len]; simp
      have HA2 : Hid (intsOf (bitsOf (l ++ b :: List.replicate j (!b))) ++ [.int .i64 ((((!b).toNat : Nat)) : Int)] = intsOf (bitsOf (l ++ b :: List.replicate (j + 1) (!b)))) := by
        show _ = _
        rw [show l ++ b :: List.replicate (j + 1) (!b) = (l ++ b :: List.replicate j (!b)) ++ [!b] by rw [List.replicate_succ']; simp, bitsOf_append (l ++ b :: List.replicate j (!b))]
        rfl
      go_wp2_with (at_builtin; refine wpList_append_st rfl _ _ 43 rfl 3 i0 (.int .i64 0) 8 Try.underlying43 hi hz0 hz1 hz2 rfl _ _ _ [.int .i64 (1 - ((b.toNat : Nat) : Int))] rfl (by first | rfl | simp) (HS.out.alloc _) (HR.out _ _) (one_oneCell _ rfl) ?c1 ?c2 ?_)
      case c1 => simp only [HL2.out, List.length_cons, List.length_nil]; unfold maxLen; omega
      case c2 => simp only [HL2.out, List.length_cons, List.length_nil]; omega
      intro v2 w2 S2
      rw [HNB.out, HA2.out] at S2
      have S2 := Lib.hid S2
      clear HS HL2 HA2
      go_wp2
      go_roundw
      case rel => exact ⟨j + 1, by omega, by go_num, S2.out⟩
      case measure => simp [intOf]; omega
    · obtain rfl : j = n := by omega
      go_wp2
      go_ret
      exact ⟨_, rfl, HS.out⟩
end Go.Proofs.Ytgmgbgjghncipaa

