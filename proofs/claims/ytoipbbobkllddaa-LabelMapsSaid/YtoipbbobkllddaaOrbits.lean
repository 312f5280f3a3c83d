/- Perm.Orbits: a list of lists; the document's count. -/
import Derived.Test.YtoipbbobkllddaaNames
namespace Go.Proofs.Ytoipbbobkllddaa
open Go.RowKit

theorem info_ints : (Try.prog.info? 22).map (fun i => (i.zero, i.size, i.bytes)) = some (some (.slice none 0 0), 1, 24) := by kernel_rfl

/-- a list of numbers in memory -/
def orbT (q : Value × List Nat) : Thing := rowT 3 q.1 (intsOf (natsI q.2))

/-- all orbits that begin below i -/
noncomputable def orbsN (xs : List Int) (i : Nat) : List (List Nat) := (leadsN xs i).map (orbN xs)
theorem orbsN_len (xs : List Int) (i : Nat) : (orbsN xs i).length = rankN xs i := by unfold orbsN; rw [List.length_map, leadsN_len]

end Go.Proofs.Ytoipbbobkllddaa

