/- The law ExecNone, its row. -/
import Derived.Test.YtghphioodlkcdaaGreatDoorNoneLifted
import Derived.Test.YtghphioodlkcdaaGreatDoorNoneFactsA
import Derived.Test.YtghphioodlkcdaaGreatDoorNoneFactsB
import Derived.Test.YtghphioodlkcdaaGreatDoorNoneFactsC
import Derived.Test.YtghphioodlkcdaaGreatDoorNoneFactsD
import Derived.Stop.Joined
namespace Go.Proofs.YtghphioodlkcdaaGreatDoor
open Go Go.AM Go.ChangeShapes Go.WideShapes Go.ChangeAt Go.RowKit
set_option maxRecDepth 100000

theorem and_true2 {a b : Bool} (h : a = true) (k : b = true) : (a && b) = true := by rw [h, k]; rfl
theorem noneJoined : joinedFacts Tryz.prog 6 Tryz.f6 Rows.execNoneSpec Rows.execNoneRow = true := by unfold joinedFacts; exact (and_true2 (and_true2 (and_true2 (and_true2 (and_true2 (and_true2 (and_true2 (and_true2 (and_true2 (and_true2 (and_true2 (and_true2 (and_true2 (and_true2 (and_true2 (and_true2 (and_true2 (and_true2 (and_true2 (and_true2 (and_true2 (and_true2 (and_true2 (and_true2 (and_true2 (and_true2 (and_true2 (and_true2 (and_true2 (and_true2 (and_true2 noneF0 noneF1) noneF2) noneF3) noneF4) noneF5) noneF6) noneF7) noneF8) noneF9) noneF10) noneF11) noneF12) noneF13) noneF14) noneF15) noneF16) noneF17) noneF18) noneF19) noneF20) noneF21) noneF22) noneF23) noneF24) noneF25) noneF26) noneF27) noneF28) noneF29) noneF30) noneF31)

theorem none_holds : Rows.ExecNoneSaid :=
  OpenClaim.holds_of_wide 6 Tryz.f6 rfl rfl rfl rfl rfl rfl rfl ⟨rfl, rfl, rfl, rfl, rfl⟩ rfl rfl rfl rfl rfl (by kernel_rfl) Tryz.func6 noneJoined
    (of_decide_eq_true (by kernel_rfl)) (by unfold Func.isWrapper; first | (rw [if_pos (by decide +kernel)]; kernel_rfl) | (rw [if_neg (by decide +kernel)]; exact ⟨rfl, rfl⟩))
    (fun os started H enc _ => none_lifted os started H enc)

end Go.Proofs.YtghphioodlkcdaaGreatDoor
