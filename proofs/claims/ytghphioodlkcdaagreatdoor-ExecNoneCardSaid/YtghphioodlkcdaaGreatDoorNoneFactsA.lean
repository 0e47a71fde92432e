/- Closed facts of the row of ExecNone. -/
import Derived.Test.YtghphioodlkcdaaGreatDoorRows
import Derived.JoinedOf
namespace Go.Proofs.YtghphioodlkcdaaGreatDoor
open Go
set_option maxRecDepth 100000
theorem noneF0 : (fun (s : ChangeSpec) (c : OpenClaim) => (c.wf (OpenSpec.ofChange s) : Bool)) Rows.execNoneSpec Rows.execNoneRow = true := by kernel_rfl
theorem noneF1 : (fun (P : Program) => (laidOutB P : Bool)) Tryz.prog = true := by kernel_rfl
theorem noneF2 : (fun (P : Program) => (mapsRowed P : Bool)) Tryz.prog = true := by kernel_rfl
theorem noneF3 : (fun (P : Program) (fn : Func) => (fn.params.all (P.readableRec ·) : Bool)) Tryz.prog Tryz.f6 = true := by kernel_rfl
theorem noneF4 : (fun (P : Program) (s : ChangeSpec) (c : OpenClaim) => (namedTie P c.named s.vars : Bool)) Tryz.prog Rows.execNoneSpec Rows.execNoneRow = true := by kernel_rfl
theorem noneF5 : (fun (c : OpenClaim) => ((c.stops == []) : Bool)) Rows.execNoneRow = true := by kernel_rfl
theorem noneF6 : (fun (P : Program) => ((P.stops == []) : Bool)) Tryz.prog = true := by kernel_rfl
theorem noneF7 : (fun (c : OpenClaim) => ((c.knobs == []) : Bool)) Rows.execNoneRow = true := by kernel_rfl
theorem noneF8 : (fun (P : Program) => ((P.stopKnobs == []) : Bool)) Tryz.prog = true := by kernel_rfl
theorem noneF13 : (fun (P : Program) (fn : Func) (s : ChangeSpec) (c : OpenClaim) => ((c.maps == (fn.params.toList ++ s.plain.varTypes P).any (P.mapsRec ·)) : Bool)) Tryz.prog Tryz.f6 Rows.execNoneSpec Rows.execNoneRow = true := by kernel_rfl
theorem noneF14 : (fun (P : Program) (fn : Func) (s : ChangeSpec) (c : OpenClaim) => ((c.ifaces == (fn.params.toList ++ s.plain.varTypes P).any (P.ifacesRec ·)) : Bool)) Tryz.prog Tryz.f6 Rows.execNoneSpec Rows.execNoneRow = true := by kernel_rfl
theorem noneF15 : (fun (P : Program) (fn : Func) (c : OpenClaim) => ((c.mapsOut == P.mapsAmong fn.resultTypes.toList) : Bool)) Tryz.prog Tryz.f6 Rows.execNoneRow = true := by kernel_rfl
theorem noneF16 : (fun (P : Program) (fn : Func) (s : ChangeSpec) (c : OpenClaim) => ((c.loops == (fn.params.toList ++ s.plain.varTypes P).any (P.loopsFrom ·)) : Bool)) Tryz.prog Tryz.f6 Rows.execNoneSpec Rows.execNoneRow = true := by kernel_rfl
theorem noneF17 : (fun (P : Program) (fn : Func) (s : ChangeSpec) (c : OpenClaim) => ((c.wideKeys == (fn.params.toList ++ s.plain.varTypes P ++ fn.resultTypes.toList).any (P.wideKeysFrom ·)) : Bool)) Tryz.prog Tryz.f6 Rows.execNoneSpec Rows.execNoneRow = true := by kernel_rfl
theorem noneF18 : (fun (P : Program) (s : ChangeSpec) => (s.vars.all (P.varReadable ·) : Bool)) Tryz.prog Rows.execNoneSpec = true := by kernel_rfl
theorem noneF19 : (fun (P : Program) (fn : Func) => (fn.resultTypes.all (fun t => P.readableRec t && decide (t < P.types.size)) : Bool)) Tryz.prog Tryz.f6 = true := by kernel_rfl
theorem noneF20 : (fun (P : Program) (fn : Func) (c : OpenClaim) => ((c.ifacesOut == fn.resultTypes.toList.any (P.ifacesRec ·)) : Bool)) Tryz.prog Tryz.f6 Rows.execNoneRow = true := by kernel_rfl
theorem noneF21 : (fun (P : Program) (fn : Func) (c : OpenClaim) => ((c.loopsOut == fn.resultTypes.toList.any (P.loopsFrom ·)) : Bool)) Tryz.prog Tryz.f6 Rows.execNoneRow = true := by kernel_rfl
theorem noneF22 : (fun (P : Program) (c : OpenClaim) => ((c.plainKeys == P.plainKeys) : Bool)) Tryz.prog Rows.execNoneRow = true := by kernel_rfl
theorem noneF23 : (fun (c : OpenClaim) => (c.shortTexts.isNone : Bool)) Rows.execNoneRow = true := by kernel_rfl
theorem noneF24 : (fun (P : Program) => (P.stopsHeard : Bool)) Tryz.prog = true := by kernel_rfl
theorem noneF25 : (fun (P : Program) => (P.mayEnter : Bool)) Tryz.prog = true := by kernel_rfl
theorem noneF26 : (fun (P : Program) (c : OpenClaim) => ((c.lifted == P.liftsFinal) : Bool)) Tryz.prog Rows.execNoneRow = true := by kernel_rfl
theorem noneF27 : (fun (P : Program) (c : OpenClaim) => ((P.make == some c.make) : Bool)) Tryz.prog Rows.execNoneRow = true := by kernel_rfl
theorem noneF28 : (fun (P : Program) (fn : Func) (c : OpenClaim) => ((c.kinds == (if c.domain.isEmpty then [] else fn.params.toList.map fun t => match P.underlying t with | some (.int k) => some k | _ => none)) : Bool)) Tryz.prog Tryz.f6 Rows.execNoneRow = true := by kernel_rfl
theorem noneF29 : (fun (c : OpenClaim) => ((c.pinned == c.pinnedBy) : Bool)) Rows.execNoneRow = true := by kernel_rfl
theorem noneF30 : (fun (P : Program) (fn : Func) (s : ChangeSpec) (c : OpenClaim) => ((c.veiled == (fn.params.toList ++ s.plain.varTypes P ++ fn.resultTypes.toList).any (P.veiledRec ·)) : Bool)) Tryz.prog Tryz.f6 Rows.execNoneSpec Rows.execNoneRow = true := by kernel_rfl
theorem noneF31 : (fun (P : Program) (fn : Func) (s : ChangeSpec) (c : OpenClaim) => (c.veiledFits P fn.params.toList (fn.params.toList ++ s.plain.varTypes P ++ fn.resultTypes.toList) : Bool)) Tryz.prog Tryz.f6 Rows.execNoneSpec Rows.execNoneRow = true := by kernel_rfl
end Go.Proofs.YtghphioodlkcdaaGreatDoor
