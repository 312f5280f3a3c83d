/- slices.Clone at bytes, in the state of a law's memory. -/
import Derived.Test.YtoipbbobkllddaaClone
import Derived.Test.YtoipbbobkllddaaThings
namespace Go.Proofs.Ytoipbbobkllddaa
open Go.RowKit

theorem oneCell_bytes (l : List Nat) : ∀ u ∈ bytesOf l, u.oneCell' = true := by
  intro u hu
  obtain ⟨x, _, rfl⟩ := List.mem_map.1 hu
  rfl

set_option maxRecDepth 100000 in
theorem bytesOf_append (l m : List Nat) : bytesOf (l ++ m) = bytesOf l ++ bytesOf m := by simp [bytesOf]

end Go.Proofs.Ytoipbbobkllddaa

