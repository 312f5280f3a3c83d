/- The contracts of the document's Text and Bytes. -/
import Derived.Test.YtoipbbobkllddaaOnes
namespace Go.Proofs.Ytoipbbobkllddaa
open Go.RowKit

theorem strOf_size (l : List Nat) : (strOf l).size = l.length := by
  unfold strOf; rw [strOfNums_size]; simp
theorem strOf_append (l m : List Nat) : strOf (l ++ m) = strOf l ++ strOf m := by
  have : ∀ a b : ByteArray, a.data = b.data → a = b := fun a b h => by cases a; cases b; simp at h; rw [h]
  apply this
  rw [ByteArray.data_append]
  simp [strOf, strOfNums]

set_option maxRecDepth 100000 in
set_option maxHeartbeats 1000000 in
theorem refText_any (sv : Value) (l : List Bool) (w : World) (hv : Reads w sv (intsOf (bitsOf l))) :
    Calls Try.prog 19 #[sv] w fun e w' => e = .returned (.string (strOf (textOf l))) ∧ w = w' := by
  obtain ⟨ao, cap, rfl, hcap, hm, _, hc0⟩ := hv
  rw [intsOf_len, bitsOf_len] at hcap ⊢
  have HC := Lib.hid hc0
  have hcm : l.length ≤ 9223372036854775807 := by unfold maxLen at hm; omega
  clear hm hc0
  go_enter Try.func19, Try.ntmps19
  go_wp2_with fail
  go_loopw [3, 8] (fun x i wr => ∃ k : Nat, k ≤ l.length ∧ i = .int .i64 k ∧ x = .string (strOf (textOf (l.take k))) ∧ w = wr) (fun _ i _ => l.length - (intOf i).toNat)
  case atStart => exact ⟨0, by omega, rfl, rfl, rfl⟩
  case round =>
    obtain ⟨k, hk, rfl, rfl, rfl⟩ := hrel
    by_cases hlt : k < l.length
    · rcases HC.out with hc | ⟨bb, off, rfl, hc⟩
      · have : l.length = 0 := by rw [← bitsOf_len, ← intsOf_len, hc]; rfl
        omega
      have cb := hc k _ (bitsOf_get l k hlt)
      obtain ⟨t, hb⟩ : ∃ t, l.getD k false = t := ⟨_, rfl⟩
      have HT := Lib.hid (textOf_take l k hlt t hb)
      rw [hb] at cb
      have hsz : (strOf (textOf (l.take k))).size = k := by rw [strOf_size, textOf_len, List.length_take]; omega
      have HA := Lib.hid (fun x => strOf_append (textOf (l.take k)) [x])
      generalize textOf (l.take k) = T at HT HA hsz ⊢
      have HS0 := Lib.hid HT.out
      clear HT
      generalize strOf T = sT at hsz HA ⊢
      clear hc hb
      cases t
      · have cb' : w.cell? ⟨bb, off + k, none⟩ = some (.int .i64 0) := cb
        clear cb
        go_wp2
        go_roundw
        case rel => exact ⟨k + 1, by omega, by go_num, by rw [HS0.out, HA.out]; rfl, by first | rfl | trivial⟩
        case measure => simp [intOf]; omega
      · have cb' : w.cell? ⟨bb, off + k, none⟩ = some (.int .i64 1) := cb
        clear cb
        go_wp2
        go_roundw
        case rel => exact ⟨k + 1, by omega, by go_num, by rw [HS0.out, HA.out]; rfl, by first | rfl | trivial⟩
        case measure => simp [intOf]; omega
    · have hkl : k = l.length := by omega
      subst hkl
      rw [List.take_length]
      go_wp2
      go_ret
      exact ⟨rfl, rfl⟩
theorem num_take_drop (l : List Bool) (n : Nat) : BitsP.num l = BitsP.num (l.take n) + 2 ^ n * BitsP.num (l.drop n) := by
  by_cases h : n ≤ l.length
  · have h1 := BitsP.num_append (l.take n) (l.drop n)
    rw [List.take_append_drop, List.length_take, Nat.min_eq_left h] at h1
    exact h1
  · rw [List.drop_eq_nil_of_le (by omega), List.take_of_length_le (by omega)]
    simp [BitsP.num]

theorem num_take_lt (l : List Bool) (n : Nat) : BitsP.num (l.take n) < 2 ^ n :=
  Nat.lt_of_lt_of_le (BitsP.num_lt _) (Nat.pow_le_pow_right (by decide) (by rw [List.length_take]; omega))

theorem num_drop_div (l : List Bool) (n : Nat) : BitsP.num (l.drop n) = BitsP.num l / 2 ^ n := by
  have h1 := num_take_drop l n
  have h2 := num_take_lt l n
  rw [h1, Nat.add_mul_div_left _ _ (Nat.two_pow_pos n), Nat.div_eq_of_lt h2, Nat.zero_add]

theorem num_take_mod (l : List Bool) (n : Nat) : BitsP.num (l.take n) = BitsP.num l % 2 ^ n := by
  have h1 := num_take_drop l n
  have h2 := num_take_lt l n
  rw [h1, Nat.add_mul_mod_self_left, Nat.mod_eq_of_lt h2]

theorem byteAt_num (l : List Bool) (k : Nat) : byteAt l k = BitsP.num ((l.drop (8 * k)).take 8) := by
  rw [num_take_mod, num_drop_div]; rfl

/-- one step of a byte, from its top -/
theorem oct_step (l : List Bool) (k j : Nat) (hj : j < 8) : BitsP.num (((l.drop (8 * k)).take 8).drop j) = (if 8 * k + j < l.length then (l.getD (8 * k + j) false).toNat else 0) + 2 * BitsP.num (((l.drop (8 * k)).take 8).drop (j + 1)) := by
  by_cases h : 8 * k + j < l.length
  · rw [if_pos h, num_drop _ j (by rw [List.length_take, List.length_drop]; omega)]
    congr 2
    simp [List.getD_eq_getElem?_getD, hj]
  · rw [if_neg h, List.drop_eq_nil_of_le (by rw [List.length_take, List.length_drop]; omega), List.drop_eq_nil_of_le (by rw [List.length_take, List.length_drop]; omega)]
    rfl

theorem oct_lt (l : List Bool) (k j : Nat) : BitsP.num (((l.drop (8 * k)).take 8).drop j) < 256 :=
  Nat.lt_of_lt_of_le (BitsP.num_lt _) (Nat.le_trans (Nat.pow_le_pow_right (by decide) (show _ ≤ 8 by rw [List.length_drop, List.length_take]; omega)) (by decide))

theorem octs_succ (l : List Bool) (k : Nat) : bytesOf ((List.range (k + 1)).map (byteAt l)) = bytesOf ((List.range k).map (byteAt l)) ++ [.int .u8 ((byteAt l k : Nat) : Int)] := by
  simp [bytesOf, List.range_succ]

end Go.Proofs.Ytoipbbobkllddaa

