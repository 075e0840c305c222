/- Lemmas for wholeNotEmpty; no conditions. -/
import Derived.Test.YtpggdkenajfjjaaGreatDoorRows
import Derived.WalkKit
import Derived.JoinedOf
import Derived.LaidOnce
import Derived.SevenTiedAt
set_option linter.all false
set_option maxRecDepth 100000
set_option maxHeartbeats 16000000
namespace Go.Proofs.YtpggdkenajfjjaaGreatDoor.wholeNotEmpty
open Go.RowKit
theorem j5:(Rows.wholeNotEmptyRow.wf (OpenSpec.ofChange Rows.wholeNotEmptySpec)&&laidOutB Tryz.prog&&mapsRowed Tryz.prog&&Tryz.f3.params.all (Tryz.prog.readableRec ·)&&namedTie Tryz.prog Rows.wholeNotEmptyRow.named Rows.wholeNotEmptySpec.vars&&(Rows.wholeNotEmptyRow.stops==[])&&(Tryz.prog.stops==[])&&(Rows.wholeNotEmptyRow.knobs==[])&&(Tryz.prog.stopKnobs==[]))=true:=by kernel_rfl
end Go.Proofs.YtpggdkenajfjjaaGreatDoor.wholeNotEmpty
