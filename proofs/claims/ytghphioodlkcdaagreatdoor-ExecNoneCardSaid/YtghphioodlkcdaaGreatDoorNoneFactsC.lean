/- Closed facts of the row of ExecNone. -/
import Derived.Test.YtghphioodlkcdaaGreatDoorRows
import Derived.JoinedOf
namespace Go.Proofs.YtghphioodlkcdaaGreatDoor
open Go
set_option maxRecDepth 100000
theorem noneF10 : (fun (P : Program) (f : FuncId) (c : OpenClaim) => ((c.unfollowed == P.unfollowed f) : Bool)) Tryz.prog 6 Rows.execNoneRow = true := by kernel_rfl
theorem noneF11 : (fun (P : Program) (f : FuncId) (c : OpenClaim) => ((c.recurses == P.recurses f) : Bool)) Tryz.prog 6 Rows.execNoneRow = true := by kernel_rfl
end Go.Proofs.YtghphioodlkcdaaGreatDoor
