/- Lemmas for wholeNotEmpty; no conditions. -/
import Derived.Test.YtpggdkenajfjjaaGreatDoorRows
import Derived.WalkKit
import Derived.JoinedOf
import Derived.LaidOnce
import Derived.SevenTiedAt
set_option linter.all false
set_option maxRecDepth 100000
set_option maxHeartbeats 16000000
namespace Go.Proofs.YtpggdkenajfjjaaGreatDoor.wholeNotEmpty
open Go.RowKit
theorem j3:(Rows.wholeNotEmptyRow.recurses==Tryz.prog.recurses 3)=true:=by kernel_rfl
end Go.Proofs.YtpggdkenajfjjaaGreatDoor.wholeNotEmpty
