/- Closed facts of the card of ExecNone. -/
import Derived.Test.YtghphioodlkcdaaGreatDoorRows
import Derived.SevenTiedAt
namespace Go.Proofs.YtghphioodlkcdaaGreatDoor
open Go
set_option maxRecDepth 100000
theorem noneC1 : Rows.execNoneRow.wfByText (OpenSpec.ofChange Rows.execNoneSpec) = true := by kernel_rfl
theorem noneC2 : Tryz.prog.mainIs = some (true, "65822aaf08a874423475daa253ec18cee2e3fcc6cbc0b28bbc6448c98f7915c4".toList) := by kernel_rfl
theorem noneC3 : Tryz.prog.funcNamed "mezzotint/mezzotintlaw11.ExecNone" = some 6 := by kernel_rfl
theorem noneC4 : ([9, 28].all fun u => !Tryz.prog.wantsStandIn u) = true := by kernel_rfl
end Go.Proofs.YtghphioodlkcdaaGreatDoor
