/- Lemmas for wholeNotEmpty; no conditions. -/
import Derived.Test.YtpggdkenajfjjaaGreatDoorRows
import Derived.WalkKit
import Derived.LaidOnce
import Derived.Lay
set_option linter.all false
set_option maxRecDepth 100000
set_option maxHeartbeats 16000000
namespace Go.Proofs.YtpggdkenajfjjaaGreatDoor.wholeNotEmpty
open Go.RowKit
theorem h7 (os:Os):(World.holding Tryz.prog os ⟨#[],#[],[]⟩).layFits Tryz.prog Rows.wholeNotEmptyRow.laid []=true:=by kernel_rfl
end Go.Proofs.YtpggdkenajfjjaaGreatDoor.wholeNotEmpty
