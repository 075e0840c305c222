/- Lemmas for wholeNotEmpty; no conditions. -/
import Derived.Test.YtpggdkenajfjjaaGreatDoorRows
import Derived.WalkKit
import Derived.LaidOnce
import Derived.Lay
set_option linter.all false
set_option maxRecDepth 100000
set_option maxHeartbeats 16000000
namespace Go.Proofs.YtpggdkenajfjjaaGreatDoor.wholeNotEmpty
open Go.RowKit
theorem h2 (os:Os):(((World.laidAll Tryz.prog os Rows.wholeNotEmptyRow.laid).forCall (λ_ _=>0) ⟨#[],#[.agg #[.slice none 0 0,.int .i64 0,.slice none 0 0,.int .i64 0,.int .i64 0,.slice none 0 0],.slice none 0 0],[]⟩).heap.toList.drop Tryz.prog.globals.size).take ((begin Tryz.prog (λ_ _=>0) default).world.heap.size - Tryz.prog.globals.size)=(begin Tryz.prog (λ_ _=>0) default).world.heap.toList.drop Tryz.prog.globals.size:=by kernel_rfl
end Go.Proofs.YtpggdkenajfjjaaGreatDoor.wholeNotEmpty
