/- THE ABSTRACT MACHINE, part 1: its data. A deterministic reading of the model: memory is a finite map from names to blocks of cells; an appended slice moves to a new name; capacities that the tape draws are left open. -/
import Derived.Calls
import Derived.Recover
import Derived.Laws.Sem
import Derived.Laws.World
namespace Go.AM
open Go

inductive D8 : Type where
  | d0 | d1 | d2 | d3 | d4 | d5 | d6 | d7

/-- One level of a tree by digits. -/
inductive F8 (α β : Type) : Type where
  | e : F8 α β
  | n : Option α → β → β → β → β → β → β → β → β → F8 α β

/-- A finite map from numbers: a tree by digits. -/
structure T (α : Type) : Type where
  un : F8 α (T α)

def T.e {α : Type} : T α := ⟨.e⟩

noncomputable def dig (n : Nat) : D8 :=
  Nat.rec (motive := fun _ => D8) .d0 (fun n _ => Nat.rec (motive := fun _ => D8) .d1 (fun n _ => Nat.rec (motive := fun _ => D8) .d2 (fun n _ => Nat.rec (motive := fun _ => D8) .d3
    (fun n _ => Nat.rec (motive := fun _ => D8) .d4 (fun n _ => Nat.rec (motive := fun _ => D8) .d5 (fun n _ => Nat.rec (motive := fun _ => D8) .d6 (fun _ _ => .d7) n) n) n) n) n) n) n

/-- A test of a truth, by its recursor. -/
noncomputable abbrev ifB {α : Type} (c : Bool) (t f : α) : α := Bool.rec (motive := fun _ => α) f t c

noncomputable def pthF (k : Nat) : Nat → List D8 :=
  Nat.rec (motive := fun _ => Nat → List D8) (fun _ => []) (fun _ ih i => ifB (Nat.beq i 0) [] (dig (Nat.mod (Nat.sub i 1) 8) :: ih (Nat.div (Nat.sub i 1) 8))) k

/-- A number's path. -/
noncomputable def pth (i : Nat) : List D8 := pthF (Nat.succ i) i

noncomputable def getP {α : Type} (p : List D8) : T α → Option α :=
  List.rec (motive := fun _ => T α → Option α)
    (fun t => F8.rec (motive := fun _ => Option α) none (fun v _ _ _ _ _ _ _ _ => v) t.un)
    (fun d _ ih t => F8.rec (motive := fun _ => D8 → (T α → Option α) → Option α) (fun _ _ => none) (fun _ c0 c1 c2 c3 c4 c5 c6 c7 d ih => ih (D8.rec (motive := fun _ => T α) c0 c1 c2 c3 c4 c5 c6 c7 d)) t.un d ih) p

noncomputable def T.get {α : Type} (t : T α) (i : Nat) : Option α := getP (pth i) t

noncomputable def setC {α : Type} (d : D8) (v : Option α) (c0 c1 c2 c3 c4 c5 c6 c7 c : T α) : T α :=
  D8.rec (motive := fun _ => Option α → T α → T α → T α → T α → T α → T α → T α → T α → T α → T α)
    (fun v _ c1 c2 c3 c4 c5 c6 c7 c => ⟨.n v c c1 c2 c3 c4 c5 c6 c7⟩) (fun v c0 _ c2 c3 c4 c5 c6 c7 c => ⟨.n v c0 c c2 c3 c4 c5 c6 c7⟩) (fun v c0 c1 _ c3 c4 c5 c6 c7 c => ⟨.n v c0 c1 c c3 c4 c5 c6 c7⟩) (fun v c0 c1 c2 _ c4 c5 c6 c7 c => ⟨.n v c0 c1 c2 c c4 c5 c6 c7⟩) (fun v c0 c1 c2 c3 _ c5 c6 c7 c => ⟨.n v c0 c1 c2 c3 c c5 c6 c7⟩) (fun v c0 c1 c2 c3 c4 _ c6 c7 c => ⟨.n v c0 c1 c2 c3 c4 c c6 c7⟩) (fun v c0 c1 c2 c3 c4 c5 _ c7 c => ⟨.n v c0 c1 c2 c3 c4 c5 c c7⟩) (fun v c0 c1 c2 c3 c4 c5 c6 _ c => ⟨.n v c0 c1 c2 c3 c4 c5 c6 c⟩) d v c0 c1 c2 c3 c4 c5 c6 c7 c

/-- The same, handed on. -/
noncomputable def setK {α R : Type} (d : D8) (v : Option α) (c0 c1 c2 c3 c4 c5 c6 c7 : T α) (k : T α → R) (c : T α) : R :=
  D8.rec (motive := fun _ => Option α → T α → T α → T α → T α → T α → T α → T α → T α → (T α → R) → T α → R)
    (fun v _ c1 c2 c3 c4 c5 c6 c7 k c => k ⟨.n v c c1 c2 c3 c4 c5 c6 c7⟩) (fun v c0 _ c2 c3 c4 c5 c6 c7 k c => k ⟨.n v c0 c c2 c3 c4 c5 c6 c7⟩) (fun v c0 c1 _ c3 c4 c5 c6 c7 k c => k ⟨.n v c0 c1 c c3 c4 c5 c6 c7⟩) (fun v c0 c1 c2 _ c4 c5 c6 c7 k c => k ⟨.n v c0 c1 c2 c c4 c5 c6 c7⟩) (fun v c0 c1 c2 c3 _ c5 c6 c7 k c => k ⟨.n v c0 c1 c2 c3 c c5 c6 c7⟩) (fun v c0 c1 c2 c3 c4 _ c6 c7 k c => k ⟨.n v c0 c1 c2 c3 c4 c c6 c7⟩) (fun v c0 c1 c2 c3 c4 c5 _ c7 k c => k ⟨.n v c0 c1 c2 c3 c4 c5 c c7⟩) (fun v c0 c1 c2 c3 c4 c5 c6 _ k c => k ⟨.n v c0 c1 c2 c3 c4 c5 c6 c⟩) d v c0 c1 c2 c3 c4 c5 c6 c7 k c

noncomputable def getC {α : Type} (d : D8) (c0 c1 c2 c3 c4 c5 c6 c7 : T α) : T α :=
  D8.rec (motive := fun _ => T α) c0 c1 c2 c3 c4 c5 c6 c7 d

/-- A place is laid, and the new tree handed on: no work is left undone in it. -/
noncomputable def putP {α R : Type} (v : Option α) (p : List D8) : T α → (T α → R) → R :=
  List.rec (motive := fun _ => T α → (T α → R) → R)
    (fun t k => F8.rec (motive := fun _ => Option α → (T α → R) → R) (fun v k => k ⟨.n v .e .e .e .e .e .e .e .e⟩) (fun _ c0 c1 c2 c3 c4 c5 c6 c7 v k => k ⟨.n v c0 c1 c2 c3 c4 c5 c6 c7⟩) t.un v k)
    (fun d _ ih t k => F8.rec (motive := fun _ => D8 → (T α → (T α → R) → R) → (T α → R) → R) (fun d ih k => ih .e (setK d none .e .e .e .e .e .e .e .e k))
      (fun x c0 c1 c2 c3 c4 c5 c6 c7 d ih k => ih (getC d c0 c1 c2 c3 c4 c5 c6 c7) (setK d x c0 c1 c2 c3 c4 c5 c6 c7 k)) t.un d ih k) p

noncomputable def T.putK {α R : Type} (t : T α) (i : Nat) (v : Option α) (k : T α → R) : R := putP v (pth i) t k

/-- A value: what the model's values are, with names of blocks in the place of their places. -/
inductive V : Type where
  | i (k : IntKind) (n : Int)
  | b (b : Bool)
  | s (l : List UInt8)
  | p0
  | p (b off : Nat)
  | sl0 (n c : Nat)
  | sl (b off n c : Nat)
  | m0
  | m (b : Nat)
  | f0
  | f (g : FuncId) (first cap : List V)
  | n0
  | n (t : TypeId) (v : V)
  | agg (l : List V)
  | tup (l : List V)
  | junk

section
variable {R : Type}
/-- A value that is an integer; or else. -/
noncomputable def asI (v : V) (d : R) (g : IntKind → Int → R) : R :=
  V.rec (motive_1 := fun _ => R → (IntKind → Int → R) → R) (motive_2 := fun _ => Unit) (fun k n _ g => g k n) (fun _ d _ => d) (fun _ d _ => d) (fun d _ => d) (fun _ _ d _ => d) (fun _ _ d _ => d) (fun _ _ _ _ d _ => d) (fun d _ => d) (fun _ d _ => d) (fun d _ => d) (fun _ _ _ _ _ d _ => d) (fun d _ => d) (fun _ _ _ d _ => d) (fun _ _ d _ => d) (fun _ _ d _ => d) (fun d _ => d) () (fun _ _ _ _ => ()) v d g
noncomputable def asB (v : V) (d : R) (g : Bool → R) : R :=
  V.rec (motive_1 := fun _ => R → (Bool → R) → R) (motive_2 := fun _ => Unit) (fun _ _ d _ => d) (fun c _ g => g c) (fun _ d _ => d) (fun d _ => d) (fun _ _ d _ => d) (fun _ _ d _ => d) (fun _ _ _ _ d _ => d) (fun d _ => d) (fun _ d _ => d) (fun d _ => d) (fun _ _ _ _ _ d _ => d) (fun d _ => d) (fun _ _ _ d _ => d) (fun _ _ d _ => d) (fun _ _ d _ => d) (fun d _ => d) () (fun _ _ _ _ => ()) v d g
noncomputable def asS (v : V) (d : R) (g : List UInt8 → R) : R :=
  V.rec (motive_1 := fun _ => R → (List UInt8 → R) → R) (motive_2 := fun _ => Unit) (fun _ _ d _ => d) (fun _ d _ => d) (fun l _ g => g l) (fun d _ => d) (fun _ _ d _ => d) (fun _ _ d _ => d) (fun _ _ _ _ d _ => d) (fun d _ => d) (fun _ d _ => d) (fun d _ => d) (fun _ _ _ _ _ d _ => d) (fun d _ => d) (fun _ _ _ d _ => d) (fun _ _ d _ => d) (fun _ _ d _ => d) (fun d _ => d) () (fun _ _ _ _ => ()) v d g
noncomputable def asP (v : V) (d : R) (g : Nat → Nat → R) : R :=
  V.rec (motive_1 := fun _ => R → (Nat → Nat → R) → R) (motive_2 := fun _ => Unit) (fun _ _ d _ => d) (fun _ d _ => d) (fun _ d _ => d) (fun d _ => d) (fun b o _ g => g b o) (fun _ _ d _ => d) (fun _ _ _ _ d _ => d) (fun d _ => d) (fun _ d _ => d) (fun d _ => d) (fun _ _ _ _ _ d _ => d) (fun d _ => d) (fun _ _ _ d _ => d) (fun _ _ d _ => d) (fun _ _ d _ => d) (fun d _ => d) () (fun _ _ _ _ => ()) v d g
noncomputable def asSl (v : V) (d : R) (g : Nat → Nat → Nat → Nat → R) : R :=
  V.rec (motive_1 := fun _ => R → (Nat → Nat → Nat → Nat → R) → R) (motive_2 := fun _ => Unit) (fun _ _ d _ => d) (fun _ d _ => d) (fun _ d _ => d) (fun d _ => d) (fun _ _ d _ => d) (fun _ _ d _ => d) (fun b o n c _ g => g b o n c) (fun d _ => d) (fun _ d _ => d) (fun d _ => d) (fun _ _ _ _ _ d _ => d) (fun d _ => d) (fun _ _ _ d _ => d) (fun _ _ d _ => d) (fun _ _ d _ => d) (fun d _ => d) () (fun _ _ _ _ => ()) v d g
noncomputable def asF (v : V) (d : R) (g : FuncId → List V → List V → R) : R :=
  V.rec (motive_1 := fun _ => R → (FuncId → List V → List V → R) → R) (motive_2 := fun _ => Unit) (fun _ _ d _ => d) (fun _ d _ => d) (fun _ d _ => d) (fun d _ => d) (fun _ _ d _ => d) (fun _ _ d _ => d) (fun _ _ _ _ d _ => d) (fun d _ => d) (fun _ d _ => d) (fun d _ => d) (fun f x y _ _ _ g => g f x y) (fun d _ => d) (fun _ _ _ d _ => d) (fun _ _ d _ => d) (fun _ _ d _ => d) (fun d _ => d) () (fun _ _ _ _ => ()) v d g
noncomputable def asAgg (v : V) (d : R) (g : List V → R) : R :=
  V.rec (motive_1 := fun _ => R → (List V → R) → R) (motive_2 := fun _ => Unit) (fun _ _ d _ => d) (fun _ d _ => d) (fun _ d _ => d) (fun d _ => d) (fun _ _ d _ => d) (fun _ _ d _ => d) (fun _ _ _ _ d _ => d) (fun d _ => d) (fun _ d _ => d) (fun d _ => d) (fun _ _ _ _ _ d _ => d) (fun d _ => d) (fun _ _ _ d _ => d) (fun l _ _ g => g l) (fun _ _ d _ => d) (fun d _ => d) () (fun _ _ _ _ => ()) v d g
noncomputable def asTup (v : V) (d : R) (g : List V → R) : R :=
  V.rec (motive_1 := fun _ => R → (List V → R) → R) (motive_2 := fun _ => Unit) (fun _ _ d _ => d) (fun _ d _ => d) (fun _ d _ => d) (fun d _ => d) (fun _ _ d _ => d) (fun _ _ d _ => d) (fun _ _ _ _ d _ => d) (fun d _ => d) (fun _ d _ => d) (fun d _ => d) (fun _ _ _ _ _ d _ => d) (fun d _ => d) (fun _ _ _ d _ => d) (fun _ _ d _ => d) (fun l _ _ g => g l) (fun d _ => d) () (fun _ _ _ _ => ()) v d g
/-- A value's head is reckoned. -/
noncomputable def fH (v : V) (k : V → R) : R :=
  V.rec (motive_1 := fun _ => (V → R) → R) (motive_2 := fun _ => Unit) (fun a n k => k (.i a n)) (fun c k => k (.b c)) (fun l k => k (.s l)) (fun k => k .p0) (fun b o k => k (.p b o)) (fun n c k => k (.sl0 n c)) (fun b o n c k => k (.sl b o n c)) (fun k => k .m0) (fun b k => k (.m b)) (fun k => k .f0) (fun g x y _ _ k => k (.f g x y)) (fun k => k .n0) (fun t v _ k => k (.n t v)) (fun l _ k => k (.agg l)) (fun l _ k => k (.tup l)) (fun k => k .junk) () (fun _ _ _ _ => ()) v k

/-- A number is reckoned before it is handed on. -/
noncomputable def fN (n : Nat) (k : Nat → R) : R := Nat.rec (motive := fun _ => (Nat → R) → R) (fun k => k 0) (fun m _ k => k m) (Nat.add n 1) k
noncomputable def fI (n : Int) (k : Int → R) : R := Int.rec (motive := fun _ => (Int → R) → R) (fun a k => fN a (fun a => k (.ofNat a))) (fun a k => fN a (fun a => k (.negSucc a))) n k
noncomputable def fB (n : Bool) (k : Bool → R) : R := Bool.rec (motive := fun _ => (Bool → R) → R) (fun k => k false) (fun k => k true) n k
noncomputable def fL {α : Type} (l : List α) : (List α → R) → R :=
  List.rec (motive := fun _ => (List α → R) → R) (fun k => k []) (fun a _ ih k => ih (fun r => k (a :: r))) l
/-- Values' heads are reckoned, all along a list. -/
noncomputable def fHs (l : List V) : (List V → R) → R :=
  List.rec (motive := fun _ => (List V → R) → R) (fun k => k []) (fun a _ ih k => fH a (fun a => ih (fun r => k (a :: r)))) l
end

/-- A block of memory. -/
inductive Blk : Type where
  | cells (c : T V) (n : Nat) (ro : Bool)
  | map (es : List (List UInt8 × V))
  | iter (s : List UInt8) (pos : Nat)

abbrev Heap := T Blk

/-- What is known of the program: types and functions by their numbers; structs that are compared cell by cell; functions that are summed up. -/
structure Env where
  ty : T (TypeInfo × TypeDesc)
  fn : T Func
  plain : T (List Nat)
  sum : T (List V → Heap → Option V)

/-- The capacity of a slice that reaches to the end of its block, wherever that is. -/
def openCap : Nat := 4611686018427387904

/-- What an operation does to memory. -/
inductive Eff : Type where
  | no
  | new (l : List V)
  | wr (b off : Nat) (l : List V)
  | mv (b k : Nat) (l : List V)
  | upd (b : Nat) (x : Blk)
  | mk (x : Blk)

inductive ORes : Type where
  | val (v : V) (f : Eff)
  | pan (v : V)
  | call (f : FuncId) (args : List V)
  | dfr (f : FuncId) (args : List V)
  | recov
  | stuck

def undefV : V := .tup []

noncomputable def optV (o : Option V) : V := Option.rec (motive := fun _ => V) undefV (fun v => v) o

noncomputable def rd (c : T V) (i : Nat) : V := optV (c.get i)

/-- A constant, as an abstract value. -/
def ofVal : Value → V
  | .int k n => .i k n
  | .bool b => .b b
  | .string s => .s s.data.toList
  | .pointer none => .p0
  | .slice none n c => .sl0 n c
  | .map none => .m0
  | .nilFunc => .f0
  | .nilIface => .n0
  | .agg ⟨l⟩ => .agg (go l)
  | .tuple ⟨l⟩ => .tup (go l)
  | _ => .junk
where go : List Value → List V
  | [] => []
  | v :: r => ofVal v :: go r

/-- The cells of a range, reckoned. -/
noncomputable def rdK {R : Type} (c : T V) (n : Nat) : Nat → (List V → R) → R :=
  Nat.rec (motive := fun _ => Nat → (List V → R) → R) (fun _ k => k []) (fun _ ih i k => fH (rd c i) (fun v => fN (Nat.succ i) (fun i => ih i (fun r => k (v :: r))))) n

/-- A list's elements are laid from a place on. -/
noncomputable def putsK {R : Type} (l : List V) : T V → Nat → (T V → R) → R :=
  List.rec (motive := fun _ => T V → Nat → (T V → R) → R) (fun t _ k => k t)
    (fun v _ ih t i k => fH v (fun v => T.putK t i (some v) (fun t => fN (Nat.succ i) (fun i => ih t i k)))) l

noncomputable def ev (tm : T V) (o : Operand) : V :=
  Operand.rec (motive := fun _ => T V → V) (fun t tm => rd tm t) (fun v _ => ofVal v) (fun _ _ => .junk) (fun f _ => .f f [] []) o tm

noncomputable def evs (tm : T V) (l : List Operand) : List V :=
  List.rec (motive := fun _ => List V) [] (fun o _ ih => ev tm o :: ih) l

noncomputable def mapL {α β : Type} (f : α → β) (l : List α) : List β :=
  List.rec (motive := fun _ => List β) [] (fun o _ ih => f o :: ih) l

noncomputable def lenL {α : Type} (l : List α) : Nat := List.rec (motive := fun _ => Nat → Nat) (fun n => n) (fun _ _ ih n => fN (Nat.succ n) ih) l 0

noncomputable def appL {α : Type} (l m : List α) : List α := List.rec (motive := fun _ => List α) m (fun a _ ih => a :: ih) l

noncomputable def nthL {α : Type} (l : List α) : Nat → Option α :=
  List.rec (motive := fun _ => Nat → Option α) (fun _ => none) (fun a _ ih i => Nat.rec (motive := fun _ => Option α) (some a) (fun j _ => ih j) i) l

noncomputable def dropL {α : Type} (l : List α) (i : Nat) : List α :=
  Nat.rec (motive := fun _ => List α → List α) (fun l => l) (fun _ ih l => List.rec (motive := fun _ => List α) [] (fun _ r _ => ih r) l) i l

noncomputable def takeL {α : Type} (l : List α) (i : Nat) : List α :=
  Nat.rec (motive := fun _ => List α → List α) (fun _ => []) (fun _ ih l => List.rec (motive := fun _ => List α) [] (fun a r _ => a :: ih r) l) i l

noncomputable def cellsL (v : V) : List V := asAgg v [v] (fun l => l)

/-- May a value stand in one cell? -/
noncomputable def cellOk (v : V) : Bool := V.rec (motive_1 := fun _ => Bool) (motive_2 := fun _ => Unit) (fun _ _ => true) (fun _ => true) (fun _ => true) true (fun _ _ => true) (fun _ _ => true) (fun _ _ _ _ => true) true (fun _ => true) true (fun _ _ _ _ _ => true) true (fun _ _ _ => true) (fun _ _ => false) (fun _ _ => false) false () (fun _ _ _ _ => ()) v

/-- Is a value known? -/
noncomputable def isKnown (v : V) : Bool := V.rec (motive_1 := fun _ => Bool) (motive_2 := fun _ => Unit) (fun _ _ => true) (fun _ => true) (fun _ => true) true (fun _ _ => true) (fun _ _ => true) (fun _ _ _ _ => true) true (fun _ => true) true (fun _ _ _ _ _ => true) true (fun _ _ _ => true) (fun _ _ => true) (fun _ _ => true) false () (fun _ _ _ _ => ()) v

noncomputable def okParts (l : List (Nat × V)) : Bool := List.rec (motive := fun _ => Bool) true (fun p _ ih => ifB (isKnown p.2) ih false) l

noncomputable def cellsOk (l : List V) : Bool := List.rec (motive := fun _ => Bool) true (fun v _ ih => ifB (cellOk v) ih false) l

def zeroL (i : TypeInfo) : Option (List V) := match i.zero with | some (.agg ⟨l⟩) => some (ofVal.go l) | some v => some [ofVal v] | none => none

noncomputable def isAggD (d : TypeDesc) : Bool := TypeDesc.rec (motive := fun _ => Bool) false false (fun _ => false) (fun _ => false) (fun _ => false) false false (fun _ => false) (fun _ => false) (fun _ _ => true) (fun _ _ => false) (fun _ _ => false) (fun _ => true) (fun _ _ _ => false) (fun _ => false) (fun _ => false) (fun _ _ => false) d

/-- Integers: wrapped only if they must be. -/
noncomputable def topOf (k : IntKind) : Nat :=
  IntKind.rec (motive := fun _ => Nat) 127 32767 2147483647 9223372036854775807 255 65535 4294967295 18446744073709551615 k

noncomputable def sgn (k : IntKind) : Bool := IntKind.rec (motive := fun _ => Bool) true true true true false false false false k

noncomputable def wrK {R : Type} (k : IntKind) (n : Int) (g : Int → R) : R :=
  Int.rec (motive := fun _ => IntKind → (Int → R) → R) (fun a k g => fN a (fun a => ifB (Nat.ble a (topOf k)) (g (.ofNat a)) (fI (k.wrap (.ofNat a)) g)))
    (fun a k g => fN a (fun a => ifB (sgn k) (ifB (Nat.ble a (topOf k)) (g (.negSucc a)) (fI (k.wrap (.negSucc a)) g)) (fI (k.wrap (.negSucc a)) g))) n k g

noncomputable def intEq (a b : Int) : Bool :=
  Int.rec (motive := fun _ => Bool) (fun a => Int.rec (motive := fun _ => Bool) (fun b => Nat.beq a b) (fun _ => false) b) (fun a => Int.rec (motive := fun _ => Bool) (fun _ => false) (fun b => Nat.beq a b) b) a

noncomputable def intLt (a b : Int) : Bool :=
  Int.rec (motive := fun _ => Bool) (fun a => Int.rec (motive := fun _ => Bool) (fun b => Nat.ble (Nat.succ a) b) (fun _ => false) b) (fun a => Int.rec (motive := fun _ => Bool) (fun _ => true) (fun b => Nat.ble (Nat.succ b) a) b) a

noncomputable def bytesEq (a : List UInt8) : List UInt8 → Bool :=
  List.rec (motive := fun _ => List UInt8 → Bool) (fun b => List.rec (motive := fun _ => Bool) true (fun _ _ _ => false) b)
    (fun x _ ih b => List.rec (motive := fun _ => Bool) false (fun y r _ => ifB (Nat.beq x.toNat y.toNat) (ih r) false) b) a

noncomputable def kcode (k : IntKind) : Nat := IntKind.rec (motive := fun _ => Nat) 0 1 2 3 4 5 6 7 k
noncomputable def kindEq (a b : IntKind) : Bool := Nat.beq (kcode a) (kcode b)

section
variable {R : Type} (k : IntKind) (a b : Int) (g : V → Option R)
noncomputable def gB (c : Bool) (g : V → Option R) : Option R := fB c (fun c => g (.b c))
noncomputable def gI (k : IntKind) (n : Int) (g : V → Option R) : Option R := fI n (fun n => g (.i k n))
noncomputable def gW (k : IntKind) (n : Int) (g : V → Option R) : Option R := wrK k n (fun n => g (.i k n))

/-- A bit by bit operation: of small numbers that are not negative by 'f', else as the model has it. -/
noncomputable def bitK (f : Nat → Nat → Nat) (d : Int) : Option R :=
  Int.rec (motive := fun _ => Option R) (fun x => Int.rec (motive := fun _ => Option R) (fun y => ifB (Nat.ble x (topOf k)) (ifB (Nat.ble y (topOf k)) (gI k (.ofNat (f x y)) g) (gI k d g)) (gI k d g)) (fun _ => gI k d g) b) (fun _ => gI k d g) a

/-- Two integers of one kind. -/
noncomputable def intK (op : BinOp) : Option R :=
  BinOp.rec (motive := fun _ => IntKind → Int → Int → (V → Option R) → Option R) (fun k a b g => gW k (a + b) g) (fun k a b g => gW k (a - b) g) (fun k a b g => gW k (a * b) g) (fun k a b g => ifB (intEq b 0) none (gW k (a.tdiv b) g)) (fun k a b g => ifB (intEq b 0) none (gI k (a.tmod b) g)) (fun k a b g => bitK k a b g Nat.land (k.wrap (Int.ofNat ((BitVec.ofInt k.bits a) &&& (BitVec.ofInt k.bits b)).toNat))) (fun k a b g => bitK k a b g Nat.lor (k.wrap (Int.ofNat ((BitVec.ofInt k.bits a) ||| (BitVec.ofInt k.bits b)).toNat))) (fun k a b g => bitK k a b g Nat.xor (k.wrap (Int.ofNat ((BitVec.ofInt k.bits a) ^^^ (BitVec.ofInt k.bits b)).toNat))) (fun _ _ _ _ => none) (fun _ _ _ _ => none) (fun k a b g => gI k (k.wrap (Int.ofNat ((BitVec.ofInt k.bits a) &&& ~~~(BitVec.ofInt k.bits b)).toNat)) g) (fun _ a b g => gB (intEq a b) g) (fun _ a b g => gB (Bool.not (intEq a b)) g) (fun _ a b g => gB (intLt a b) g) (fun _ a b g => gB (Bool.not (intLt b a)) g) (fun _ a b g => gB (intLt b a) g) (fun _ a b g => gB (Bool.not (intLt a b)) g) op k a b g

noncomputable def bitsOf (k : IntKind) : Nat := IntKind.rec (motive := fun _ => Nat) 8 16 32 64 8 16 32 64 k
noncomputable def shAmt (k : IntKind) (b : Nat) : Nat := ifB (Nat.ble b (bitsOf k)) b (bitsOf k)
noncomputable def shlK : Option R := Int.rec (motive := fun _ => Option R) (fun m => Int.rec (motive := fun _ => Option R) (fun x => gW k (.ofNat (Nat.shiftLeft x (shAmt k m))) g) (fun _ => gW k (a * 2 ^ (shAmt k m)) g) a) (fun _ => none) b
noncomputable def shrK : Option R := Int.rec (motive := fun _ => Option R) (fun m => Int.rec (motive := fun _ => Option R) (fun x => gI k (.ofNat (Nat.shiftRight x (shAmt k m))) g) (fun _ => gI k (a.fdiv (2 ^ (shAmt k m))) g) a) (fun _ => none) b

noncomputable def isShift (op : BinOp) : Nat := BinOp.rec (motive := fun _ => Nat) 0 0 0 0 0 0 0 0 1 2 0 0 0 0 0 0 0 op

noncomputable def binI (op : BinOp) (k' : IntKind) : Option R :=
  Nat.rec (motive := fun _ => Option R) (ifB (kindEq k k') (intK k a b g op) none) (fun n _ => Nat.rec (motive := fun _ => Option R) (shlK k a b g) (fun _ _ => shrK k a b g) n) (isShift op)
end

noncomputable def strK {R : Type} (a b : List UInt8) (g : V → Option R) (op : BinOp) : Option R :=
  match op with
  | .add => ifB (Nat.ble (Nat.add (lenL a) (lenL b)) 9223372036854775807) (fL (appL a b) (fun l => g (.s l))) none
  | .eql => gB (bytesEq a b) g
  | .neq => gB (Bool.not (bytesEq a b)) g
  | _ => none

/-- A part of an aggregate. -/
noncomputable def partK {R : Type} (i : TypeInfo × TypeDesc) (cs : List V) (off : Nat) (g : V → Option R) : Option R :=
  ifB (isAggD i.2) (ifB (Nat.ble (Nat.add off i.1.size) (lenL cs)) (fL (takeL (dropL cs off) i.1.size) (fun l => g (.agg l))) none) (match nthL cs off with | some v => fH v g | none => none)

/-- '==' of cells that hold numbers, truths and strings. -/
noncomputable def cellEq (x y : V) : Option Bool :=
  asI x (asB x (asS x none (fun a => asS y none (fun b => some (bytesEq a b)))) (fun a => asB y none (fun b => some (ifB a b (Bool.not b))))) (fun k a => asI y none (fun k' b => ifB (kindEq k k') (some (intEq a b)) none))

/-- '==' of cells of one kind: 0 a truth, 1 a number, else a string. -/
noncomputable def cellEqC (c : Nat) (x y : V) : Option Bool :=
  Nat.rec (motive := fun _ => Option Bool) (asB x none (fun a => asB y none (fun b => some (ifB a b (Bool.not b)))))
    (fun c _ => Nat.rec (motive := fun _ => Option Bool) (asI x none (fun k a => asI y none (fun k' b => ifB (kindEq k k') (some (intEq a b)) none))) (fun _ _ => asS x none (fun a => asS y none (fun b => some (bytesEq a b)))) c) c

noncomputable def plainEq (cs : List Nat) : List V → List V → Option Bool :=
  List.rec (motive := fun _ => List V → List V → Option Bool)
    (fun xs ys => List.rec (motive := fun _ => Option Bool) (List.rec (motive := fun _ => Option Bool) (some true) (fun _ _ _ => none) ys) (fun _ _ _ => none) xs)
    (fun c _ ih xs ys => List.rec (motive := fun _ => Option Bool) none (fun x xr _ => List.rec (motive := fun _ => Option Bool) none
      (fun y yr _ => Option.rec (motive := fun _ => Option Bool) none (fun b => ifB b (ih xr yr) (some false)) (cellEqC c x y)) ys) xs) cs

noncomputable def aggEq (E : Env) (t : TypeId) (xs ys : List V) : Option Bool :=
  match E.plain.get t with | some cs => ifB (Nat.beq (lenL xs) (lenL cs)) (ifB (Nat.beq (lenL ys) (lenL cs)) (plainEq cs xs ys) none) none | none => none

/-- '==' of two values of a type. -/
noncomputable def opEq (E : Env) (cs : Bool) (t : TypeId) (x y : V) : Option Bool :=
  match E.ty.get t with
  | none => none
  | some i => match i.2, x, y with
    | .bool, .b a, .b b => some (ifB a b (Bool.not b))
    | .pointer _, .p0, .p0 => some true
    | .pointer _, .p0, .p _ _ => some false
    | .pointer _, .p _ _, .p0 => some false
    | .slice _, .sl0 _ _, .sl0 _ _ => some true
    | .slice _, .sl0 _ _, .sl _ _ _ _ => some false
    | .slice _, .sl _ _ _ _, .sl0 _ _ => some false
    | .map _ _, .m0, .m0 => some true
    | .map _ _, .m0, .m _ => some false
    | .map _ _, .m _, .m0 => some false
    | .func _ _ _, .f0, .f0 => some true
    | .func _ _ _, .f0, .f _ _ _ => some false
    | .func _ _ _, .f _ _ _, .f0 => some false
    | .interface _, .n0, .n0 => ifB cs (some true) none
    | .interface _, .n0, .n _ _ => some false
    | .interface _, .n _ _, .n0 => some false
    | .struct _, .agg xs, .agg ys => aggEq E t xs ys
    | _, _, _ => none

noncomputable def binOther {R : Type} (E : Env) (cs : Bool) (op : BinOp) (t : TypeId) (x y : V) (g : V → Option R) : Option R :=
  match op with
  | .eql => match opEq E cs t x y with | some b => gB b g | none => none
  | .neq => match opEq E cs t x y with | some b => gB (Bool.not b) g | none => none
  | _ => none

noncomputable def binK {R : Type} (E : Env) (cs : Bool) (op : BinOp) (t : TypeId) (x y : V) (g : V → Option R) : Option R :=
  asI x (asS x (binOther E cs op t x y g) (fun a => asS y none (fun b => strK a b g op))) (fun k a => asI y none (fun k' b => binI k a b g op k'))

noncomputable def unK {R : Type} (op : UnOp) (x : V) (g : V → Option R) : Option R :=
  match op with
  | .neg => asI x none (fun k n => gW k (0 - n) g)
  | .not => asB x none (fun b => gB (Bool.not b) g)
  | _ => none

end Go.AM
