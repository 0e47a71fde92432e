/- What the abstract machine knows of this seat's program is so. -/
import Derived.Test.YtghphioodlkcdaaGreatDoorAtSum
import Derived.Test.YtghphioodlkcdaaGreatDoorAmEnv
namespace Go.Proofs.YtghphioodlkcdaaGreatDoor
open Go Go.AM Go.RowKit
set_option maxRecDepth 100000

theorem amKnown : Known Tryz.amE Tryz.prog := known_of (by kernel_rfl) (by kernel_rfl) (by kernel_rfl) (by kernel_rfl) (by kernel_rfl) (by kernel_rfl)
theorem amNamed : Named Tryz.amE := named_of (by kernel_rfl) (by kernel_rfl)
theorem amSums : SumOK Tryz.amE Tryz.prog := sum_of (L := [(181, sIndexByte), (70, sPairs 2 pairKinds 8 16)]) (by kernel_rfl) (by kernel_rfl) fun p hp args h v e μ nx w args' ha g => by
  rcases List.mem_cons.1 hp with rfl | hp
  · exact .inl (sIndexByte_ok (h := h) Tryz.func181 (by kernel_rfl) (by kernel_rfl) (by kernel_rfl) (by kernel_rfl) e ha)
  · obtain rfl := List.mem_singleton.1 hp
    exact .inr (sPairs_ok e ha g)
theorem amMixed : Tryz.prog.follows .mixedOrders = true := by kernel_rfl

end Go.Proofs.YtghphioodlkcdaaGreatDoor
