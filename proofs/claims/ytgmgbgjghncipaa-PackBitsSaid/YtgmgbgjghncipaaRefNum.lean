/- The document's Num. -/
import Derived.Test.YtgmgbgjghncipaaSame
namespace Go.Proofs.Ytgmgbgjghncipaa
open Go.RowKit

theorem bit_mod (x j : Nat) : (((x.testBit j).toNat : Nat) : Int) = (((x / 2 ^ j : Nat) : Int)) % 2 := by
  rw [Nat.toNat_testBit]
  omega

theorem numBits_split (x n m : Nat) (h : m ≤ n) : numBits x n = numBits x m ++ numBits (x / 2 ^ m) (n - m) := by
  apply List.ext_getElem
  · simp [numBits_len]; omega
  · intro i h1 h2
    rw [List.getElem_append]
    split
    · simp [numBits]
    · rename_i h3
      rw [numBits_len] at h3
      simp only [numBits, List.getElem_map, List.getElem_range, List.length_map, List.length_range, Nat.testBit_div_two_pow]
      congr 1; omega

theorem clamp_nat (n : Nat) (h : n ≤ 64) : clamp n = n := by unfold clamp; split <;> (try split) <;> omega
theorem numBits_len_clamp (x : Nat) (n : Nat) (h : n ≤ 64) : (numBits x (clamp (n : Int))).length = n := by rw [numBits_len, clamp_nat n h]
end Go.Proofs.Ytgmgbgjghncipaa

