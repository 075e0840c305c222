/- Lemmas for wholeNotEmpty; no conditions. -/
import Derived.Test.YtpggdkenajfjjaaGreatDoorGay
import Derived.Test.YtpggdkenajfjjaaGreatDoorGaz
import Derived.Test.YtpggdkenajfjjaaGreatDoorGba
import Derived.Test.YtpggdkenajfjjaaGreatDoorGbb
import Derived.Test.YtpggdkenajfjjaaGreatDoorGbc
set_option linter.all false
set_option maxRecDepth 100000
set_option maxHeartbeats 16000000
namespace Go.Proofs.YtpggdkenajfjjaaGreatDoor.wholeNotEmpty
open Go.RowKit
theorem joined:joinedFacts Tryz.prog 3 Tryz.f3 Rows.wholeNotEmptySpec Rows.wholeNotEmptyRow=true:=by
 unfold joinedFacts;rw [j5,j1,j2,j3,j4];kernel_rfl
end Go.Proofs.YtpggdkenajfjjaaGreatDoor.wholeNotEmpty
