/- Closed facts of the card of ExecNone. -/
import Derived.Test.YtghphioodlkcdaaGreatDoorRows
import Derived.SevenTiedAt
namespace Go.Proofs.YtghphioodlkcdaaGreatDoor
open Go
set_option maxRecDepth 100000
theorem noneC5 : true = Tryz.prog.looks [] := by kernel_rfl
end Go.Proofs.YtghphioodlkcdaaGreatDoor
