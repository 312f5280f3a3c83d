/- The laws' own helper: like. -/
import Derived.Test.YtgmgbgjghncipaaRefOut
namespace Go.Proofs.Ytgmgbgjghncipaa
open Go.RowKit

end Go.Proofs.Ytgmgbgjghncipaa

