/- The closed run of ExecNone, reckoned by the kernel. -/
import Derived.Test.YtghphioodlkcdaaGreatDoorAmEnv
import Derived.KernelRfl
namespace Go.Proofs.YtghphioodlkcdaaGreatDoor
open Go Go.AM Go.Proofs
set_option maxRecDepth 100000

/-- The run, whatever the name and the number. -/
theorem noneRun (l : List UInt8) (n : Int) : endsIn true (runCall Tryz.amE 1000000 6 [.s l, .i .i64 n] .e 0) = true := by kernel_rfl

end Go.Proofs.YtghphioodlkcdaaGreatDoor
