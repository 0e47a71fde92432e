/-
  DERIVED. GIVEN WITH THE SEED: THE CARDS: each row of YtghphioodlkcdaaGreatDoorRows.lean that lists a variable, with what it lists TIED to the program's text (the seventh form; the later family's looks); each row that meets fmt, with fmt's text TOLD by the authors' own Lean function (tested against real Go, not proved from fmt's source: count such statements apart). THE CARD IS WHAT COUNTS. Prove the row's statement (the work); the ties are given (YtghphioodlkcdaaGreatDoorTie.lean); close each card by the builder's one call (the guide's Derived/Test/ToyasCard.lean, 'card_holds'). Laid BY PROGRAM, IN A SANDBOX (cutbox-door.mjs). By AI agents, Wed Nov 11 2026. No macro, syntax, notation, axiom, sorry.
-/
import Derived.Test.YtghphioodlkcdaaGreatDoorRows
import GoSem.ClaimSeven
namespace Go.Proofs.YtghphioodlkcdaaGreatDoor
namespace Rows

/-- THE TIED CARD OF 'mezzotintlaw11.ExecFuel'. -/
def execFuelCard : Claim7 := { stood := { row := execFuelRow, standIns := [], harness := (true, "65822aaf08a874423475daa253ec18cee2e3fcc6cbc0b28bbc6448c98f7915c4"), looks := true }, kinds := [], alts := [], laidByText := true, laidKinds := [.data, .data, .data, .data, .data, .data, .pinned, .pinned], laidTests := true, laidLooks := .later }
def ExecFuelCardSaid : Prop := Claim7.holds Tryz.pinned (.plain (OpenSpec.ofChange execFuelSpec)) execFuelCard

/-- THE TIED CARD OF 'mezzotintlaw11.ExecTurns'. -/
def execTurnsCard : Claim7 := { stood := { row := execTurnsRow, standIns := [], harness := (true, "65822aaf08a874423475daa253ec18cee2e3fcc6cbc0b28bbc6448c98f7915c4"), looks := true }, kinds := [], alts := [], laidByText := true, laidKinds := [.data, .data, .data, .data, .data, .data, .pinned, .pinned], laidTests := true, laidLooks := .later }
def ExecTurnsCardSaid : Prop := Claim7.holds Tryz.pinned (.plain (OpenSpec.ofChange execTurnsSpec)) execTurnsCard

/-- THE TIED CARD OF 'mezzotintlaw11.ExecSwaps'. -/
def execSwapsCard : Claim7 := { stood := { row := execSwapsRow, standIns := [], harness := (true, "65822aaf08a874423475daa253ec18cee2e3fcc6cbc0b28bbc6448c98f7915c4"), looks := true }, kinds := [], alts := [], laidByText := true, laidKinds := [.data, .data, .data, .data, .data, .data, .pinned, .pinned], laidTests := true, laidLooks := .later }
def ExecSwapsCardSaid : Prop := Claim7.holds Tryz.pinned (.plain (OpenSpec.ofChange execSwapsSpec)) execSwapsCard

/-- THE TIED CARD OF 'mezzotintlaw11.ExecNone'. -/
def execNoneCard : Claim7 := { stood := { row := execNoneRow, standIns := [], harness := (true, "65822aaf08a874423475daa253ec18cee2e3fcc6cbc0b28bbc6448c98f7915c4"), looks := true }, kinds := [], alts := [], laidByText := true, laidKinds := [.data, .data, .data, .data, .data, .data, .pinned, .pinned], laidTests := true, laidLooks := .later }
def ExecNoneCardSaid : Prop := Claim7.holds Tryz.pinned (.plain (OpenSpec.ofChange execNoneSpec)) execNoneCard

/-- THE SECOND FORM's CARD OF 'mezzotintlaw11.ExecFuel'. -/
def execFuelUptoCard : Claim7 := { stood := { row := execFuelUptoRow, standIns := [], harness := (true, "65822aaf08a874423475daa253ec18cee2e3fcc6cbc0b28bbc6448c98f7915c4"), looks := true }, kinds := [], alts := [], laidByText := true, laidKinds := [.data, .data, .data, .data, .data, .data, .pinned, .pinned], laidTests := true, laidLooks := .later }
def ExecFuelUptoCardSaid : Prop := Claim7.holds Tryz.pinned (.plain (OpenSpec.upto execFuelSpec)) execFuelUptoCard

/-- THE SECOND FORM's CARD OF 'mezzotintlaw11.ExecTurns'. -/
def execTurnsUptoCard : Claim7 := { stood := { row := execTurnsUptoRow, standIns := [], harness := (true, "65822aaf08a874423475daa253ec18cee2e3fcc6cbc0b28bbc6448c98f7915c4"), looks := true }, kinds := [], alts := [], laidByText := true, laidKinds := [.data, .data, .data, .data, .data, .data, .pinned, .pinned], laidTests := true, laidLooks := .later }
def ExecTurnsUptoCardSaid : Prop := Claim7.holds Tryz.pinned (.plain (OpenSpec.upto execTurnsSpec)) execTurnsUptoCard

/-- THE SECOND FORM's CARD OF 'mezzotintlaw11.ExecSwaps'. -/
def execSwapsUptoCard : Claim7 := { stood := { row := execSwapsUptoRow, standIns := [], harness := (true, "65822aaf08a874423475daa253ec18cee2e3fcc6cbc0b28bbc6448c98f7915c4"), looks := true }, kinds := [], alts := [], laidByText := true, laidKinds := [.data, .data, .data, .data, .data, .data, .pinned, .pinned], laidTests := true, laidLooks := .later }
def ExecSwapsUptoCardSaid : Prop := Claim7.holds Tryz.pinned (.plain (OpenSpec.upto execSwapsSpec)) execSwapsUptoCard

/-- THE SECOND FORM's CARD OF 'mezzotintlaw11.ExecNone'. -/
def execNoneUptoCard : Claim7 := { stood := { row := execNoneUptoRow, standIns := [], harness := (true, "65822aaf08a874423475daa253ec18cee2e3fcc6cbc0b28bbc6448c98f7915c4"), looks := true }, kinds := [], alts := [], laidByText := true, laidKinds := [.data, .data, .data, .data, .data, .data, .pinned, .pinned], laidTests := true, laidLooks := .later }
def ExecNoneUptoCardSaid : Prop := Claim7.holds Tryz.pinned (.plain (OpenSpec.upto execNoneSpec)) execNoneUptoCard
end Rows
end Go.Proofs.YtghphioodlkcdaaGreatDoor
