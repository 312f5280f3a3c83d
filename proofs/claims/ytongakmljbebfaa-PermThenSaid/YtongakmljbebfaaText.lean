/- The contract of Vec.Text. -/
import Derived.Test.YtongakmljbebfaaBuild
namespace Go.Proofs.Ytongakmljbebfaa
open Go.RowKit

/-- the text of some bits -/
def textOf (l : List Bool) : List Nat := l.map fun b => 48 + b.toNat

theorem textOf_len (l : List Bool) : (textOf l).length = l.length := by simp [textOf]
theorem textOf_lt (l : List Bool) : ∀ x ∈ textOf l, x < 256 := by
  intro x hx
  obtain ⟨b, _, rfl⟩ := List.mem_map.1 hx
  cases b <;> decide
theorem textOf_take (l : List Bool) (k : Nat) (h : k < l.length) (b : Bool) (hb : l.getD k false = b) : textOf (l.take (k + 1)) = textOf (l.take k) ++ [48 + b.toNat] := by
  have : l.take (k + 1) = l.take k ++ [b] := by
    rw [List.take_add_one, List.getElem?_eq_getElem h]
    simp [List.getD, h] at hb
    simp [hb]
  rw [this]; simp [textOf]

end Go.Proofs.Ytongakmljbebfaa

