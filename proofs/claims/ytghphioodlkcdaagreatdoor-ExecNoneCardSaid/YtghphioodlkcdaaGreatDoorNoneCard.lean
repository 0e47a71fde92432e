/- THE LAW ExecNone: A MACHINE THAT IS NONE HAS NO STEP, NO OPERANDS, NO STORE AND NO YtghphioodlkcdaaGreatDoorS, AND THE PROGRAM '1 2 add' ANSWERS 3. No condition: of every name and every error number. The run is reckoned by the abstract machine (texts Am1 to Am32), which is proved sound. -/
import Derived.Test.YtghphioodlkcdaaGreatDoorNoneHolds
import Derived.Test.YtghphioodlkcdaaGreatDoorNoneCardA
import Derived.Test.YtghphioodlkcdaaGreatDoorNoneCardB
import Derived.Test.YtghphioodlkcdaaGreatDoorNoneCardC
import Derived.Test.YtghphioodlkcdaaGreatDoorCards
import Derived.Test.YtghphioodlkcdaaGreatDoorTie
import Derived.SevenTiedAt
namespace Go.Proofs.YtghphioodlkcdaaGreatDoor
open Go Go.AM Go.ChangeShapes Go.WideShapes Go.ChangeAt Go.RowKit
set_option maxRecDepth 100000

theorem none_card_holds : Rows.ExecNoneCardSaid :=
  Claim7.holds_tied_plain_at .later [] [.data, .data, .data, .data, .data, .data, .pinned, .pinned] true (true, "65822aaf08a874423475daa253ec18cee2e3fcc6cbc0b28bbc6448c98f7915c4") true none_holds (fun _ h => by cases h) noneC1 (fun _ h => by cases h) execNone_row_tie rfl ⟨rfl, rfl⟩ noneC2 rfl
    (fun f fn hf hfn => by
      obtain rfl : f = 6 := Option.some.inj (noneC3.symm.trans hf) |>.symm
      obtain rfl : fn = Tryz.f6 := (Option.some.inj (Tryz.func6.symm.trans hfn)).symm
      exact ⟨noneC5, fun j t ht => by
        rw [Tryz.params6] at ht
        have hm : t ∈ [9, 28] := by simpa using Array.mem_of_getElem? ht
        exact (show Tryz.prog.wantsStandIn t = false by simpa using List.all_eq_true.1 noneC4 t hm)⟩)
    noneC6
#print axioms none_card_holds
end Go.Proofs.YtghphioodlkcdaaGreatDoor
