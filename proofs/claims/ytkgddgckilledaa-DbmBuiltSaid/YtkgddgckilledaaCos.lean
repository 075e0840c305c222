/- The walks of Cost, of close and of the document's. -/
import Derived.Test.YtkgddgckilledaaClw
namespace Go.Proofs.Ytkgddgckilledaa
open Go.RowKit
set_option linter.unusedVariables false
set_option linter.unusedSimpArgs false
open Gn
namespace Gn
def costV (n : Int) : Int := if n < 0 ∨ 64 < n then 0 else 8 * n * n * n
end Gn
end Go.Proofs.Ytkgddgckilledaa
