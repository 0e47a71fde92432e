/- Closed facts of the card of ExecNone. -/
import Derived.Test.YtghphioodlkcdaaGreatDoorRows
import Derived.SevenTiedAt
namespace Go.Proofs.YtghphioodlkcdaaGreatDoor
open Go
set_option maxRecDepth 100000
theorem noneC6 : false = Rows.execNoneRow.goesBy Tryz.prog := by kernel_rfl
end Go.Proofs.YtghphioodlkcdaaGreatDoor
