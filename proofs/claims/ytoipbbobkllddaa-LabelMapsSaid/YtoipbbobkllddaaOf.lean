/- The laws' own helpers: of, awake. -/
import Derived.Test.YtoipbbobkllddaaRef
namespace Go.Proofs.Ytoipbbobkllddaa
open Go.RowKit

set_option maxRecDepth 100000 in
theorem sizeOf_clamp (k : Int) : sizeOf' k = clamp k := by unfold sizeOf' clamp; split <;> (try split) <;> omega

set_option maxRecDepth 100000 in
theorem St.reads1 {w0 w : World} {os : List Thing} {E : TypeId} {v : Value} {xs : List Value} (h : St w0 w (rowT E v xs :: os)) : Reads w v xs := h.reads (E := E) (by simp)

end Go.Proofs.Ytoipbbobkllddaa

