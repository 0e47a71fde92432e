/- ExecNone, called. -/
import Derived.Test.YtghphioodlkcdaaGreatDoorKnown
import Derived.Test.YtghphioodlkcdaaGreatDoorNoneRun
namespace Go.Proofs.YtghphioodlkcdaaGreatDoor
open Go Go.AM Go.RowKit
set_option maxRecDepth 100000

theorem none_calls (s : ByteArray) (n : Int) (w : World) : Calls Tryz.prog 6 #[.string s, .int .i64 n] w fun e w' => e = .returned (.bool true) ∧ Below w.heap.size w w' := by
  obtain ⟨⟨l⟩⟩ := s
  exact run_truth amMixed amKnown amNamed amSums (noneRun l n) (.cons (.s l) (.cons (.i _ _) .nil)) w

end Go.Proofs.YtghphioodlkcdaaGreatDoor
