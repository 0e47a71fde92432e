/- THE ABSTRACT MACHINE, part 3: its control. -/
import Derived.Test.YtghphioodlkcdaaGreatDoorAm2
namespace Go.AM
open Go

/-- A frame's mode, as the model's, with abstract values. -/
inductive AMode : Type where
  | ret
  | pan (ch : List (V × Bool))

/-- How a call ends. -/
inductive AEnd : Type where
  | ret (v : V)
  | pan (ch : List (V × Bool))

/-- How code is left. -/
inductive AEx : Type where
  | normal
  | exit (id : Nat)
  | ret
  | pan (ch : List (V × Bool))

/-- What a frame holds, and the memory. -/
structure St where
  tm : T V
  nt : Nat
  dfs : List (FuncId × List V)
  up : Option AMode
  hp : Heap
  nx : Nat

abbrev KO (R : Type) := AEx → St → Option R
abbrev KC (R : Type) := AEnd → Option AMode → Heap → Nat → Option R

/-- The two ways to run something, with one less fuel. -/
structure Rec (R : Type) where
  code : Code → St → KO R → Option R
  call : FuncId → List V → Option AMode → Heap → Nat → KC R → Option R

/-- Memory behind an operation. -/
noncomputable def effK {R : Type} (f : Eff) (h : Heap) (nx : Nat) (k : Heap → Nat → Option R) : Option R := match f with
  | .no => k h nx
  | .new l => putsK l .e 0 (fun c => fN (lenL l) (fun n => h.putK nx (some (.cells c n false)) (fun h => fN (Nat.succ nx) (fun nx => k h nx))))
  | .wr b off l => (match h.get b with
    | some (.cells c n ro) => putsK l c off (fun c => h.putK b (some (.cells c n ro)) (fun h => k h nx))
    | _ => none)
  | .mv b at' l => (match h.get b with
    | some (.cells c _ _) => putsK l c at' (fun c => fN (Nat.add at' (lenL l)) (fun n => h.putK b none (fun h => h.putK nx (some (.cells c n false)) (fun h => fN (Nat.succ nx) (fun nx => k h nx)))))
    | _ => none)
  | .upd b x => h.putK b (some x) (fun h => k h nx)
  | .mk x => h.putK nx (some x) (fun h => fN (Nat.succ nx) (fun nx => k h nx))

noncomputable def putT {R : Type} (tm : T V) (nt : Nat) (d : Option Tmp) (v : V) (k : T V → Option R) : Option R :=
  Option.rec (motive := fun _ => T V → Nat → V → (T V → Option R) → Option R) (fun tm _ _ k => k tm) (fun d tm nt v k => ifB (Nat.ble (Nat.succ d) nt) (tm.putK d (some v) k) (k tm)) d tm nt v k

noncomputable def guardB (ops : List Oper) (tm : T V) (j : Nat) (want : Bool) : Bool :=
  match nthL ops j with
  | some o => match o.dst with
    | some d => asB (rd tm d) false (fun b => ifB b want (Bool.not want))
    | none => false
  | none => false

noncomputable def guardOk (ops : List Oper) (tm : T V) (g : Option (Nat × Bool)) : Bool :=
  Option.rec (motive := fun _ => List Oper → T V → Bool) (fun _ _ => true) (fun p ops tm => guardB ops tm p.1 p.2) g ops tm

/-- Is it known that a guard says no? -/
noncomputable def guardKn (ops : List Oper) (tm : T V) (g : Option (Nat × Bool)) : Bool :=
  Option.rec (motive := fun _ => Bool) true (fun p => match nthL ops p.1 with
    | some o => (match o.dst with
      | some d => isKnown (rd tm d)
      | none => true)
    | none => true) g

section
variable {R : Type} (E : Env) (F : Rec R)

/-- A call: summed up, or run. -/
noncomputable def callS (f : FuncId) (args : List V) (h : Heap) (nx : Nat) (k : AEnd → Heap → Nat → Option R) : Option R :=
  match E.sum.get f with
  | some s => (match s args h with | some v => fH v (fun v => k (.ret v) h nx) | none => none)
  | none => F.call f args none h nx (fun e _ h nx => k e h nx)

/-- A deferred call that asks what it recovers. -/
noncomputable def recovK (up : Option AMode) (k : V → Option AMode → Option R) : Option R := match up with
  | none => none
  | some (.pan ((v, false) :: older)) => k v (some (.pan ((v, true) :: older)))
  | some m => k .n0 (some m)

noncomputable def retK (d : Option Tmp) (st : St) (next : St → Option R) (k : KO R) : AEnd → Heap → Nat → Option R := fun e h nx =>
  AEnd.rec (motive := fun _ => Option Tmp → St → (St → Option R) → KO R → Heap → Nat → Option R) (fun v d st next _ h nx => putT st.tm st.nt d v (fun tm => next ⟨tm, st.nt, st.dfs, st.up, h, nx⟩)) (fun ch _ st _ k h nx => k (.pan ch) ⟨st.tm, st.nt, st.dfs, st.up, h, nx⟩) e d st next k h nx

/-- What becomes of one operation. -/
noncomputable def opK (d : Option Tmp) (st : St) (next : St → Option R) (k : KO R) (r : ORes) : Option R :=
  ORes.rec (motive := fun _ => Env → Rec R → Option Tmp → St → (St → Option R) → KO R → Option R)
    (fun v f _ _ d st next _ => fH v (fun v => effK f st.hp st.nx (fun h nx => putT st.tm st.nt d v (fun tm => next ⟨tm, st.nt, st.dfs, st.up, h, nx⟩))))
    (fun v _ _ _ st _ k => k (.pan [(v, false)]) st)
    (fun f args E F d st next k => callS E F f args st.hp st.nx (retK d st next k))
    (fun f args _ _ d st next _ => fHs args (fun args => putT st.tm st.nt d undefV (fun tm => next ⟨tm, st.nt, (f, args) :: st.dfs, st.up, st.hp, st.nx⟩)))
    (fun _ _ d st next _ => recovK st.up (fun v up => putT st.tm st.nt d v (fun tm => next ⟨tm, st.nt, st.dfs, up, st.hp, st.nx⟩)))
    (fun _ _ _ _ _ _ => none) r E F d st next k

/-- An operation that is carried out. -/
noncomputable def goO (o : Oper) (ih : St → KO R → Option R) (st : St) (k : KO R) : Option R :=
  opR E o.op st.tm st.hp st.nx (fun v => putT st.tm st.nt o.dst v (fun tm => ih ⟨tm, st.nt, st.dfs, st.up, st.hp, st.nx⟩ k)) (opK E F o.dst st (fun st => ih st k) k)

/-- An operation that is passed over. -/
noncomputable def skipO (ops : List Oper) (o : Oper) (ih : St → KO R → Option R) (st : St) (k : KO R) : Option R :=
  ifB (guardKn ops st.tm o.guard) (putT st.tm st.nt o.dst undefV (fun tm => ih ⟨tm, st.nt, st.dfs, st.up, st.hp, st.nx⟩ k)) none

/-- Operations, one behind the other. -/
noncomputable def opsF (ops : List Oper) (l : List Oper) : St → KO R → Option R :=
  List.rec (motive := fun _ => Env → Rec R → List Oper → St → KO R → Option R) (fun _ _ _ st k => k .normal st)
    (fun o _ ih E F ops st k => ifB (guardOk ops st.tm o.guard) (goO E F o (ih E F ops) st k) (skipO ops o (ih E F ops) st k)) l E F ops

end

end Go.AM
