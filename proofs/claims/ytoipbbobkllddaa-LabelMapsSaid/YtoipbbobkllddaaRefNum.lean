/- The document's Num. -/
import Derived.Test.YtoipbbobkllddaaSame
namespace Go.Proofs.Ytoipbbobkllddaa
open Go.RowKit

theorem bit_mod (x j : Nat) : (((x.testBit j).toNat : Nat) : Int) = (((x / 2 ^ j : Nat) : Int)) % 2 := by
  rw [Nat.toNat_testBit]
  omega

set_option maxRecDepth 100000 in
set_option maxHeartbeats 2000000 in
theorem refNum_any {w0 w : World} {os : List Thing} (h : St w0 w os) (x : Nat) (hx : x < 18446744073709551616) (k : Int) :
    Calls Try.prog 52 #[.int .u64 x, .int .i64 k] w fun e w' => ∃ v, e = .returned v ∧ St w0 w' (rowT 3 v (intsOf (bitsOf (numBits x (clamp k)))) :: os) := by
  obtain ⟨i0, hi, hz0, hz1, hz2⟩ := info_parts info_i64
  have S1 : Hid (St w0 w (rowT 3 (.slice none 0 0) [] :: os)) := h.newRow (Keeps.refl _ _) (World.ownsRow_nil _ _ _ _)
  have HSZ : Hid (∀ w : World, Calls Try.prog 65 #[.int .i64 k] w fun e w' => e = .returned (.int .i64 (clamp k : Nat)) ∧ w = w') := fun w => by
    have := refSize_any k w
    rwa [sizeOf_clamp] at this
  have hc := clamp_le k
  generalize clamp k = n at HSZ hc ⊢
  clear h
  go_enter Try.func52, Try.ntmps52
  go_wp2_with fail
  go_loopw [0, 5, 6] (fun y v i wr => ∃ j : Nat, j ≤ n ∧ i = .int .i64 j ∧ y = .int .u64 ((x / 2 ^ j : Nat) : Int) ∧ St w0 wr (rowT 3 v (intsOf (bitsOf (numBits x j))) :: os)) (fun _ _ i _ => n - (intOf i).toNat)
  case atStart => exact ⟨0, by omega, rfl, by simp, S1.out⟩
  case round =>
    obtain ⟨j, hj, rfl, rfl, hS⟩ := hrel
    clear S1
    obtain ⟨a2, cap2, rfl, hcap2, hcm2⟩ := ownsRow_slice hS.row
    rw [intsOf_len, bitsOf_len, numBits_len] at hcap2 hS ⊢
    have HS := Lib.hid hS
    clear hS hcm2
    go_wp2_with fail
    refine (HSZ.out _).mono ?_
    rintro e w1 ⟨rfl, rfl⟩
    by_cases hlt : j < n
    · have hq : x / 2 ^ j < 18446744073709551616 := Nat.lt_of_le_of_lt (Nat.div_le_self _ _) hx
      have hd : Hid (x / 2 ^ (j + 1) = x / 2 ^ j / 2) := by
        show x / 2 ^ (j + 1) = x / 2 ^ j / 2
        rw [Nat.pow_succ, Nat.div_div_eq_div_mul]
      have HB := Lib.hid (bit_mod x j)
      have HM := Lib.hid (numBits_succ x j)
      have HL : Hid ((intsOf (bitsOf (numBits x j))).length = j) := by
        show (intsOf (bitsOf (numBits x j))).length = j
        rw [intsOf_len, bitsOf_len, numBits_len]
      have HR := Lib.hid (fun (w1 : World) (y : Int) => Reads.made w1 #[.int .i64 y] 3 (0, 0) 1 (by simp) (by decide))
      generalize x / 2 ^ j = q at hq hd HB ⊢
      go_wp2_with (at_builtin; refine wpList_append_st rfl _ _ 22 rfl 3 i0 (.int .i64 0) 8 Try.underlying22 hi hz0 hz1 hz2 rfl _ _ _ [.int .i64 ((q : Int) % 2)] rfl (by first | rfl | simp) (HS.out.alloc _) (HR.out _ _) (one_oneCell _ rfl) ?c1 ?c2 ?_)
      case c1 => rw [HL.out]; unfold maxLen; simp; omega
      case c2 => rw [HL.out]; simp; omega
      intro v2 w2 S2
      have hrow : intsOf (bitsOf (numBits x j)) ++ [Value.int .i64 ((q : Int) % 2)] = intsOf (bitsOf (numBits x (j + 1))) := by
        rw [HM.out, bitsOf_append, ← HB.out]; rfl
      rw [hrow] at S2
      have S2 := Lib.hid S2
      clear hrow HS HR
      go_wp2
      go_roundw
      case rel => exact ⟨j + 1, by omega, by go_num, by rw [hd.out]; go_num, S2.out⟩
      case measure => simp [intOf]; omega
    · have hjn : j = n := by omega
      subst hjn
      go_wp2
      go_ret
      exact ⟨_, rfl, HS.out⟩

theorem numBits_split (x n m : Nat) (h : m ≤ n) : numBits x n = numBits x m ++ numBits (x / 2 ^ m) (n - m) := by
  apply List.ext_getElem
  · simp [numBits_len]; omega
  · intro i h1 h2
    rw [List.getElem_append]
    split
    · simp [numBits]
    · rename_i h3
      rw [numBits_len] at h3
      simp only [numBits, List.getElem_map, List.getElem_range, List.length_map, List.length_range, Nat.testBit_div_two_pow]
      congr 1; omega

theorem clamp_nat (n : Nat) (h : n ≤ 64) : clamp n = n := by unfold clamp; split <;> (try split) <;> omega
theorem numBits_len_clamp (x : Nat) (n : Nat) (h : n ≤ 64) : (numBits x (clamp (n : Int))).length = n := by rw [numBits_len, clamp_nat n h]
end Go.Proofs.Ytoipbbobkllddaa

