/- Perm.Orbit, and the document's. -/
import Derived.Test.YtoipbbobkllddaaOrbP
namespace Go.Proofs.Ytoipbbobkllddaa
open Go.RowKit

def natsI (ns : List Nat) : List Int := List.map (fun m : Nat => (m : Int)) ns
theorem natsI_len (ns : List Nat) : (natsI ns).length = ns.length := by simp [natsI]
/-- how long a slice is -/
def sliceLen : Value → Nat | .slice _ n _ => n | _ => 0

theorem one_oneCell' (v : Value) (h : v.oneCell' = true) : ∀ u ∈ [v], u.oneCell' = true := by
  intro u hu; simp at hu; subst hu; exact h

end Go.Proofs.Ytoipbbobkllddaa

