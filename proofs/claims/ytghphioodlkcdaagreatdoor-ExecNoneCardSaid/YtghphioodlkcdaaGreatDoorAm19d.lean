/- THE ABSTRACT MACHINE, part 19, between: regions whose order is drawn. -/
import Derived.Test.YtghphioodlkcdaaGreatDoorAm19
namespace Go.AM
open Go

noncomputable def clsConv (E : Env) (s d : TypeId) : Bool := match E.ty.get s, E.ty.get d with
  | some _, some (_, .int _) => true
  | _, _ => false

/-- Operations that do not look at memory. -/
noncomputable def clsP (E : Env) : Op → Bool
  | .move _ | .assign _ | .pick .. | .build .. | .nilCheck _ | .binOp .. | .unOp .. | .makeInterface .. | .makeFunc .. | .fieldAddr .. | .field .. | .indexAddr .. | .index .. | .extract .. | .typeAssert .. => true
  | .convert s d _ => clsConv E s d
  | .call { callee := .builtin b, .. } => (match b with
    | .len | .cap | .max | .min => true
    | _ => false)
  | _ => false

/-- Operations that only read memory. -/
def clsR : Op → Bool
  | .load .. | .slice .. | .lookup .. => true
  | _ => false

/-- An allocation that hangs on nothing. -/
def isA (o : Oper) : Bool := match o.op, o.guard, o.dst with
  | .alloc _, none, some _ => o.after.toList.isEmpty
  | _, _, _ => false

/-- What else has an effect, or may have. -/
noncomputable def isE (E : Env) (o : Oper) : Bool := ifB (isA o) false (ifB (clsP E o.op) false (Bool.not (clsR o.op)))

/-- A record: something was read, or had an effect. -/
inductive Rc : Type where
  | rd (i : Nat) (o : Op) (tm : T V) (v : V)
  | ef (i : Nat) (h0 : Heap) (n0 : Nat) (h1 : Heap) (n1 : Nat)

/-- '=' of values of one cell, where it is sure. -/
noncomputable def veq1 (a b : V) : Bool := match a, b with
  | .i k n, .i k' n' => ifB (kindEq k k') (intEq n n') false
  | .b x, .b y => ifB x y (Bool.not y)
  | .s x, .s y => bytesEq x y
  | .p0, .p0 => true
  | .p b o, .p b' o' => ifB (Nat.beq b b') (Nat.beq o o') false
  | .sl0 n c, .sl0 n' c' => ifB (Nat.beq n n') (Nat.beq c c') false
  | .sl b o n c, .sl b' o' n' c' => ifB (Nat.beq b b') (ifB (Nat.beq o o') (ifB (Nat.beq n n') (Nat.beq c c') false) false) false
  | .m0, .m0 => true
  | .m b, .m b' => Nat.beq b b'
  | .f0, .f0 => true
  | .n0, .n0 => true
  | _, _ => false

noncomputable def veqL : List V → List V → Bool
  | [], [] => true
  | a :: l, b :: m => ifB (veq1 a b) (veqL l m) false
  | _, _ => false

noncomputable def veq (a b : V) : Bool := match a, b with
  | .agg l, .agg m => veqL l m
  | .tup l, .tup m => veqL l m
  | a, b => veq1 a b

/-- What a run comes to. -/
abbrev R0 := AEnd × Heap × Nat

section
variable {R : Type} (E : Env) (F : Rec R0)

/-- An operation without an effect. -/
noncomputable def stillV (o : Op) (tm : T V) (h : Heap) (nx : Nat) : Option V :=
  opR E o tm h nx some (fun res => match res with
    | .val v .no => fH v some
    | _ => none)

/-- The same value, in another memory? -/
noncomputable def valAt (o : Op) (tm : T V) (h : Heap) (nx : Nat) (v : V) : Bool := match stillV E o tm h nx with | some v' => veq v v' | none => false

/-- The allocations take their names first. -/
noncomputable def ptrsF (l : List Oper) : Heap → Nat → (List V → Heap → Nat → Option R) → Option R :=
  List.rec (motive := fun _ => Heap → Nat → (List V → Heap → Nat → Option R) → Option R) (fun h nx k => k [] h nx)
    (fun o _ ih h nx k => ifB (isA o) (match o.op with
      | .alloc t => (match oAllocT E t nx with
        | .val v f => effK f h nx (fun h' nx' => ih h' nx' (fun ps => k (v :: ps)))
        | _ => none)
      | _ => none) (ih h nx k)) l

/-- An operation with an effect. -/
noncomputable def effectV (o : Op) (tm : T V) (h : Heap) (nx : Nat) : Option (V × Heap × Nat) :=
  opR E o tm h nx (fun v => some (v, h, nx)) (fun res => match res with
    | .val v f => fH v (fun v => effK f h nx (fun h' nx' => some (v, h', nx')))
    | .call f args => (match callS E F f args h nx (fun e h' nx' => some (e, h', nx')) with
      | some (.ret v, h', nx') => some (v, h', nx')
      | _ => none)
    | _ => none)

/-- All operations, in the order of the text. -/
noncomputable def textF (ops : List Oper) (nt : Nat) (l : List Oper) : Nat → List V → T V → Heap → Nat → List Rc → (T V → Heap → Nat → List Rc → Option R) → Option R :=
  List.rec (motive := fun _ => Nat → List V → T V → Heap → Nat → List Rc → (T V → Heap → Nat → List Rc → Option R) → Option R)
    (fun _ _ tm h nx recs k => k tm h nx recs)
    (fun o _ ih i ps tm h nx recs k =>
      ifB (isA o) (match ps with
        | p :: ps => putT tm nt o.dst p (fun tm => fN (Nat.succ i) (fun i => ih i ps tm h nx recs k))
        | [] => none)
      (ifB (guardOk ops tm o.guard)
        (ifB (clsP E o.op) (match stillV E o.op tm h nx with | some v => putT tm nt o.dst v (fun tm => fN (Nat.succ i) (fun i => ih i ps tm h nx recs k)) | none => none)
          (ifB (clsR o.op) (match stillV E o.op tm h nx with | some v => putT tm nt o.dst v (fun tm' => fN (Nat.succ i) (fun i' => ih i' ps tm' h nx (.rd i o.op tm v :: recs) k)) | none => none)
            (match effectV E F o.op tm h nx with | some (v, h', nx') => putT tm nt o.dst v (fun tm' => fN (Nat.succ i) (fun i' => ih i' ps tm' h' nx' (.ef i h nx h' nx' :: recs) k)) | none => none)))
        (ifB (guardKn ops tm o.guard) (putT tm nt o.dst undefV (fun tm => fN (Nat.succ i) (fun i => ih i ps tm h nx recs k))) none))) l

/-- Ancestors, as masks. -/
noncomputable def maskE (ms : List Nat) (es : List Edge) : Nat :=
  List.rec (motive := fun _ => Nat) 0 (fun e _ ih => ifB (Region.binds .any e) (Nat.lor (Nat.lor (Nat.shiftLeft 1 e.on) (Option.rec (motive := fun _ => Nat) 0 (fun m => m) (nthL ms e.on))) ih) ih) es

noncomputable def masksF (l : List Oper) : List Nat → List Nat :=
  List.rec (motive := fun _ => List Nat → List Nat) (fun ms => ms) (fun o _ ih ms => ih (fN (maskE ms o.after.toList) (fun m => appL ms [m]))) l

noncomputable def bitOf (ms : List Nat) (j i : Nat) : Bool := Option.rec (motive := fun _ => Bool) false (fun m => Nat.testBit m i) (nthL ms j)

noncomputable def ordB (ms : List Nat) (i j : Nat) : Bool := ifB (bitOf ms j i) true (bitOf ms i j)

noncomputable def checkOne (ms : List Nat) (i : Nat) (o : Op) (tm : T V) (v : V) (recs : List Rc) : Bool :=
  List.rec (motive := fun _ => Bool) true (fun r _ ih => match r with
    | .ef j h0 n0 h1 n1 => ifB (ifB (ordB ms i j) true (ifB (valAt E o tm h0 n0 v) (valAt E o tm h1 n1 v) false)) ih false
    | .rd .. => ih) recs

noncomputable def checkRE (ms : List Nat) (all : List Rc) (recs : List Rc) : Bool :=
  List.rec (motive := fun _ => Bool) true (fun r _ ih => match r with
    | .rd i o tm v => ifB (checkOne E ms i o tm v all) ih false
    | .ef .. => ih) recs

end

/-- The temporaries that an operation names. -/
noncomputable def tmpsOf (l : List Operand) : List Tmp := List.rec (motive := fun _ => List Tmp) [] (fun x _ ih => match x with | .tmp t => t :: ih | _ => ih) l

noncomputable def looks (ops : List Oper) (o : Oper) : List Tmp := appL (tmpsOf o.op.operands.toList) (match o.guard with
  | some (g, _) => (match nthL ops g with
    | some og => (match og.dst with | some d => [d] | none => [])
    | none => [])
  | none => [])

noncomputable def memN (t : Nat) (l : List Nat) : Bool := List.rec (motive := fun _ => Bool) false (fun x _ ih => ifB (Nat.beq t x) true ih) l

/-- Does the first write what the second names? -/
noncomputable def writesTo (ops : List Oper) (x y : Oper) : Bool := match x.dst with
  | some d => ifB (memN d (looks ops y)) true (match y.dst with | some d' => Nat.beq d d' | none => false)
  | none => false

noncomputable def pairB (E : Env) (ops : List Oper) (ms : List Nat) (j : Nat) (y : Oper) (l : List Oper) : Nat → Bool :=
  List.rec (motive := fun _ => Nat → Bool) (fun _ => true)
    (fun x _ ih i => ifB (Nat.ble j i) true (ifB (ifB (bitOf ms j i) true (ifB (writesTo ops x y) false (ifB (writesTo ops y x) false (Bool.not (ifB (isE E x) (isE E y) false))))) (ih (Nat.succ i)) false)) l

noncomputable def edgesB (j : Nat) (l : List Edge) : Bool := List.rec (motive := fun _ => Bool) true (fun e _ ih => ifB (ifB (Region.binds .any e) (Nat.ble (Nat.succ e.on) j) true) ih false) l

noncomputable def regF (E : Env) (ops : List Oper) (ms : List Nat) (l : List Oper) : Nat → Bool :=
  List.rec (motive := fun _ => Nat → Bool) (fun _ => true)
    (fun y _ ih j => ifB (edgesB j y.after.toList) (ifB (pairB E ops ms j y ops 0) (ih (Nat.succ j)) false) false) l

/-- The check of a region. -/
noncomputable def regB (E : Env) (ops : List Oper) : Bool := regF E ops (masksF ops []) ops 0

section
variable (E : Env) (F : Rec R0)

/-- A region whose order is drawn. -/
noncomputable def drawF (ops : List Oper) (st : St) (k : KO R0) : Option R0 :=
  ifB (regB E ops) (ptrsF E ops st.hp st.nx (fun ps h nx => textF E F ops st.nt ops 0 ps st.tm h nx [] (fun tm h nx recs =>
    ifB (checkRE E (masksF ops []) recs recs) (k .normal ⟨tm, st.nt, st.dfs, st.up, h, nx⟩) none))) none
end
end Go.AM
