/- The contracts of slices.Clone at words and at integers. -/
import Derived.Test.YtgmgbgjghncipaaVecMore
import Derived.WalkSpells
namespace Go.Proofs.Ytgmgbgjghncipaa
open Go.RowKit

theorem info_i64 : (Try.prog.info? 3).map (fun i => (i.zero, i.size, i.bytes)) = some (some (.int .i64 0), 1, 8) := by kernel_rfl

end Go.Proofs.Ytgmgbgjghncipaa

