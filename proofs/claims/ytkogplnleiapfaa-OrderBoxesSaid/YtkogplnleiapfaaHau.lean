/- The walk of Has, of the package gnomonref12. -/
import Derived.Test.YtkogplnleiapfaaHat
namespace Go.Proofs.Ytkogplnleiapfaa
open Go.RowKit
set_option linter.unusedVariables false
set_option linter.unusedSimpArgs false
open Gn
end Go.Proofs.Ytkogplnleiapfaa
