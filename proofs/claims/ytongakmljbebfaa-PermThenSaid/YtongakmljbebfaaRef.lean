/- The document's functions for bits: Size, Value, Few. -/
import Derived.Test.YtongakmljbebfaaText
namespace Go.Proofs.Ytongakmljbebfaa
open Go.RowKit

/-- bits as numbers -/
def bitsOf (l : List Bool) : List Int := l.map fun b => ((b.toNat : Nat) : Int)
theorem bitsOf_len (l : List Bool) : (bitsOf l).length = l.length := by simp [bitsOf]
theorem bitsOf_get (l : List Bool) (j : Nat) (h : j < l.length) : (intsOf (bitsOf l))[j]? = some (.int .i64 (((l.getD j false).toNat : Nat) : Int)) := by
  simp [intsOf, bitsOf, h, List.getD]
theorem bitsOf_append (l m : List Bool) : intsOf (bitsOf (l ++ m)) = intsOf (bitsOf l) ++ intsOf (bitsOf m) := by simp [intsOf, bitsOf]
theorem flags_bitsOf (l : List Bool) : flags (bitsOf l) = l := by
  induction l with
  | nil => rfl
  | cons b l ih =>
    rw [bitsOf, List.map_cons, flags, List.map_cons]
    have : (l.map fun b => ((b.toNat : Nat) : Int)).map (fun x => x != 0) = l := ih
    rw [this]
    cases b <;> rfl
theorem bits_oneCell (l : List Int) : ∀ u ∈ intsOf l, u.oneCell' = true := by
  intro u hu
  obtain ⟨x, _, rfl⟩ := List.mem_map.1 hu
  rfl

/-- how many bits -/
def sizeOf' (k : Int) : Nat := min 64 k.toNat

theorem num_drop (l : List Bool) (k : Nat) (h : k < l.length) : BitsP.num (l.drop k) = (l.getD k false).toNat + 2 * BitsP.num (l.drop (k + 1)) := by
  rw [List.drop_eq_getElem_cons h]
  simp [BitsP.num, List.getD, h]

/-- the bits of a byte -/
def eight (b : Nat) : List Bool := (List.range 8).map fun j => (b / 2 ^ j) % 2 == 1
theorem eight_len (b : Nat) : (eight b).length = 8 := by simp [eight]
/-- bits of bytes, not more than so many -/
def fewOf (p : List Nat) (most : Nat) : List Bool := (p.flatMap eight).take most

theorem eight_take (b j : Nat) (h : j < 8) : (eight b).take (j + 1) = (eight b).take j ++ [(b / 2 ^ j) % 2 == 1] := by
  rw [List.take_add_one]
  simp [eight, h]

theorem few_more (A : List Bool) (b j most : Nat) (h : j < 8) (hl : ((A ++ (eight b).take j).take most).length < most) :
    (A ++ (eight b).take (j + 1)).take most = (A ++ (eight b).take j).take most ++ [(b / 2 ^ j) % 2 == 1] := by
  have h1 : (A ++ (eight b).take j).length < most := by rw [List.length_take] at hl; omega
  rw [List.take_of_length_le (Nat.le_of_lt h1), eight_take b j h, ← List.append_assoc, List.take_of_length_le]
  rw [List.length_append]; simp; simp at h1; omega

theorem few_full (A B C : List Bool) (most : Nat) (hl : ¬ ((A ++ B).take most).length < most) : (A ++ (B ++ C)).take most = (A ++ B).take most := by
  rw [List.length_take] at hl
  rw [← List.append_assoc, List.take_append_of_le_length (by omega)]

theorem few_round (p : List Nat) (k most : Nat) (h : k < p.length) : fewOf (p.take (k + 1)) most = ((p.take k).flatMap eight ++ eight (p.getD k 0)).take most := by
  unfold fewOf
  rw [List.take_succ_eq_append_getElem h, List.flatMap_append]
  simp [List.getD, h]

theorem bool_of_bit (x : Nat) : (((x % 2 == 1 : Bool).toNat : Nat) : Int) = (x : Int) % 2 := by
  rcases Nat.mod_two_eq_zero_or_one x with h | h <;> simp [h] <;> omega

end Go.Proofs.Ytongakmljbebfaa

