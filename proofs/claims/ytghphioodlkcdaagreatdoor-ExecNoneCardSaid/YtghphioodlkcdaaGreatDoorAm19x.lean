/- THE ABSTRACT MACHINE, part 19, second half: its control, from regions to calls. -/
import Derived.Test.YtghphioodlkcdaaGreatDoorAm19d
namespace Go.AM
open Go

section
variable (E : Env) (F : Rec R0)

noncomputable def seqK (b : Code) (k : KO R0) : KO R0 := fun e st => AEx.rec (motive := fun _ => Rec R0 → Code → KO R0 → St → Option R0) (fun F b k st => F.code b st k) (fun i _ _ k st => k (.exit i) st) (fun _ _ k st => k .ret st) (fun c _ _ k st => k (.pan c) st) e F b k st
noncomputable def blockK (id : Nat) (k : KO R0) : KO R0 := fun e st => AEx.rec (motive := fun _ => Nat → KO R0 → St → Option R0) (fun _ k st => k .normal st) (fun j id k st => ifB (Nat.beq j id) (k .normal st) (k (.exit j) st)) (fun _ k st => k .ret st) (fun c _ k st => k (.pan c) st) e id k st

noncomputable def codeF (c : Code) (st : St) (k : KO R0) : Option R0 :=
  Code.rec (motive := fun _ => Env → Rec R0 → St → KO R0 → Option R0)
    (fun _ _ st k => k .normal st)
    (fun _ ops d E F st k => ifB d (drawF E F ops.toList st k) (opsF E F ops.toList ops.toList st k))
    (fun a b _ _ _ F st k => F.code a st (seqK F b k))
    (fun c a b _ _ _ F st k => asB (ev st.tm c) none (fun t => F.code (Bool.rec (motive := fun _ => Code) b a t) st k))
    (fun id c _ _ F st k => F.code c st (blockK id k))
    (fun c _ _ F st k => F.code c st (seqK F (.loop c) k))
    (fun _ _ _ _ _ _ _ _ _ _ => none)
    (fun id _ _ st k => k (.exit id) st)
    (fun _ _ _ _ _ _ => none)
    (fun _ _ _ st k => k .normal st)
    (fun _ _ _ _ _ => none)
    (fun _ _ st k => k .ret st)
    (fun _ _ _ _ _ => none) c E F st k

noncomputable def resultK (r : ResultVar) (tm : T V) (h : Heap) (g : V → Option R0) : Option R0 := match r with
  | .tmp t => fH (rd tm t) g
  | .cell a t => loadK E t (rd tm a) h g

noncomputable def resultsK (rs : List ResultVar) (tm : T V) (h : Heap) : (List V → Option R0) → Option R0 :=
  List.rec (motive := fun _ => (List V → Option R0) → Option R0) (fun k => k []) (fun r _ ih k => resultK E r tm h (fun v => ih (fun l => k (v :: l)))) rs

def oneV (l : List V) : V := match l with | [v] => v | l => .tup l

noncomputable def leaveR (rs : List ResultVar) (tm : T V) (up : Option AMode) (k : KC R0) : AMode → Heap → Nat → Option R0 := fun m h nx =>
  AMode.rec (motive := fun _ => Env → List ResultVar → T V → Option AMode → KC R0 → Heap → Nat → Option R0) (fun E rs tm up k h nx => resultsK E rs tm h (fun l => fH (oneV l) (fun v => k (.ret v) up h nx))) (fun ch _ _ _ up k h nx => k (.pan ch) up h nx) m E rs tm up k h nx

/-- What a frame does at its end: its deferred calls, then its results. -/
noncomputable def leaveF (rs : List ResultVar) (tm : T V) (up : Option AMode) (k : KC R0) (ds : List (FuncId × List V)) : AMode → Heap → Nat → Option R0 :=
  List.rec (motive := fun _ => AMode → Heap → Nat → Option R0)
    (leaveR E rs tm up k)
    (fun d _ ih m h nx => F.call d.1 d.2 (some m) h nx (fun e u h nx => match u with
        | none => none
        | some u => AEnd.rec (motive := fun _ => Option R0) (fun _ => ih (settleA u) h nx) (fun ch => ih (raisedA u ch) h nx) e)) ds

noncomputable def endK (rs : List ResultVar) (k : KC R0) : KO R0 := fun e st =>
  AEx.rec (motive := fun _ => Env → Rec R0 → List ResultVar → KC R0 → St → Option R0) (fun E F rs k st => leaveF E F rs st.tm st.up k st.dfs .ret st.hp st.nx) (fun _ _ _ _ _ _ => none) (fun E F rs k st => leaveF E F rs st.tm st.up k st.dfs .ret st.hp st.nx) (fun ch E F rs k st => leaveF E F rs st.tm st.up k st.dfs (.pan ch) st.hp st.nx) e E F rs k st

noncomputable def callF (f : FuncId) (args : List V) (up : Option AMode) (h : Heap) (nx : Nat) (k : KC R0) : Option R0 :=
  match E.fn.get f with
  | none => none
  | some fn => match fn.body with
    | none => none
    | some c => ifB (Nat.ble (lenL args) fn.ntmps) (putsK args .e 0 (fun tm => F.code c ⟨tm, fn.ntmps, [], up, h, nx⟩ (endK E F fn.results.toList k))) none

end

noncomputable def recF (E : Env) (n : Nat) : Rec R0 :=
  Nat.rec (motive := fun _ => Rec R0) ⟨fun _ _ _ => none, fun _ _ _ _ _ _ => none⟩ (fun _ F => ⟨codeF E F, callF E F⟩) n

/-- A call, with so much fuel: what it returns, and the memory. -/
noncomputable def runCall (E : Env) (n : Nat) (f : FuncId) (args : List V) (h : Heap) (nx : Nat) : Option (AEnd × Heap × Nat) :=
  (recF E n).call f args none h nx (fun e _ h nx => some (e, h, nx))

/-- A run that ends in a truth. -/
noncomputable def endsIn (b : Bool) (r : Option (AEnd × Heap × Nat)) : Bool := match r with | some (.ret (.b c), _, _) => ifB b c (Bool.not c) | _ => false

end Go.AM
