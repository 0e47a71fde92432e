/- THE ABSTRACT MACHINE, part 2: its operations. -/
import Derived.Test.YtghphioodlkcdaaGreatDoorAm1
namespace Go.AM
open Go

section
variable {R : Type}

/-- Cells of a block, read. -/
noncomputable def ldK (h : Heap) (b off n : Nat) (g : List V → Option R) : Option R :=
  match h.get b with
  | some (.cells c m _) => ifB (Nat.ble (Nat.add off n) m) (rdK c n off g) none
  | _ => none

/-- One cell of a block, read. -/
noncomputable def ld1 (h : Heap) (b off : Nat) (g : V → Option R) : Option R :=
  match h.get b with
  | some (.cells c m _) => ifB (Nat.ble (Nat.succ off) m) (fH (rd c off) g) none
  | _ => none

/-- May cells of a block be written? -/
noncomputable def stOk (h : Heap) (b off : Nat) (l : List V) : Bool :=
  match h.get b with
  | some (.cells _ m ro) => ifB ro false (ifB (Nat.ble (Nat.add off (lenL l)) m) (cellsOk l) false)
  | _ => false

noncomputable def oAlloc (l : List V) (nx : Nat) : ORes := ifB (cellsOk l) (.val (.p nx 0) (.new l)) .stuck

noncomputable def oAllocT (E : Env) (t : TypeId) (nx : Nat) : ORes :=
  match E.ty.get t with | some (i, _) => (match zeroL i with | some z => oAlloc z nx | none => .stuck) | none => .stuck

noncomputable def loadK (E : Env) (t : TypeId) (a : V) (h : Heap) (g : V → Option R) : Option R :=
  asP a none (fun b off => match E.ty.get t with
    | some i => ifB (isAggD i.2) (ldK h b off i.1.size (fun l => g (.agg l))) (ld1 h b off g)
    | none => none)

noncomputable def oStore (E : Env) (t : TypeId) (a v : V) (h : Heap) : ORes :=
  asP a .stuck (fun b off => match E.ty.get t with
    | some i => ifB (Nat.beq (lenL (cellsL v)) i.1.size) (ifB (stOk h b off (cellsL v)) (.val undefV (.wr b off (cellsL v))) .stuck) .stuck
    | none => .stuck)

noncomputable def splice (l : List V) (off : Nat) (m : List V) : List V := appL (takeL l off) (appL m (dropL l (Nat.add off (lenL m))))

/-- Where the parts of an aggregate go: by the types of a struct's fields, or in equal steps. -/
noncomputable def placeS (E : Env) (fs : List Field) (i : Nat) : Option (Nat × Nat) :=
  match nthL fs i with
  | some f => match E.ty.get f.type with | some ti => some (f.offset, ti.1.size) | none => none
  | none => none

noncomputable def fillL (place : Nat → Option (Nat × Nat)) (parts : List (Nat × V)) : List V → Option (List V) :=
  List.rec (motive := fun _ => List V → Option (List V)) (fun l => some l)
    (fun p _ ih l => match place p.1 with
      | some (off, size) => ifB (Nat.beq (lenL (cellsL p.2)) size) (ifB (Nat.ble (Nat.add off size) (lenL l)) (fHs (splice l off (cellsL p.2)) (fun l => ih l)) none) none
      | none => none) parts

noncomputable def repL (l : List V) (n : Nat) : List V := Nat.rec (motive := fun _ => List V) [] (fun _ ih => appL l ih) n

/-- Where in an array: in steps of one size. -/
def placeA (size i : Nat) : Option (Nat × Nat) := some (Nat.mul i size, size)

/-- Are the types of all fields known? -/
noncomputable def allTy (E : Env) (fs : List Field) : Bool :=
  List.rec (motive := fun _ => Bool) true (fun f _ ih => Option.rec (motive := fun _ => Bool) false (fun _ => ih) (E.ty.get f.type)) fs

noncomputable def buildP (E : Env) (t : TypeId) (parts : List (Nat × V)) (g : V → Option R) : Option R :=
  match E.ty.get t with
  | some i => match zeroL i.1 with
    | some z => match i.2 with
      | .struct fs => ifB (allTy E fs.toList) (match fillL (placeS E fs.toList) parts z with | some l => g (.agg l) | none => none) none
      | .array _ elem => (match E.ty.get elem with
        | some e => (match fillL (placeA e.1.size) parts z with | some l => g (.agg l) | none => none)
        | none => none)
      | _ => none
    | none => none
  | none => none

noncomputable def buildK (E : Env) (t : TypeId) (parts : List (Nat × V)) (g : V → Option R) : Option R :=
  ifB (okParts parts) (buildP E t parts g) none

noncomputable def oBuildSlice (E : Env) (t : TypeId) (len : Nat) (parts : List (Nat × V)) (nx : Nat) : ORes :=
  match E.ty.get t with
  | some (_, .slice elem) => match E.ty.get elem with
    | some e => match zeroL e.1 with
      | some z => ifB (okParts parts) (ifB (Nat.beq (lenL z) e.1.size) (ifB (Nat.ble (Nat.mul len e.1.size) 16777216)
          (match fillL (placeA e.1.size) parts (repL z len) with
            | some l => ifB (cellsOk l) (ifB (Nat.ble (Nat.succ len) openCap) (.val (.sl nx 0 len len) (.new l)) .stuck) .stuck
            | none => .stuck) .stuck) .stuck) .stuck
      | none => .stuck
    | none => .stuck
  | _ => .stuck

noncomputable def ptrK (b off : Nat) (g : V → Option R) : Option R := fN off (fun off => g (.p b off))

noncomputable def fieldAddrK (E : Env) (s : TypeId) (a : V) (f : Nat) (g : V → Option R) : Option R :=
  asP a none (fun b off => match E.ty.get s with
    | some (_, .struct fs) => (match nthL fs.toList f with
      | some fd => (match E.ty.get fd.type with
        | some ti => ifB (Nat.beq ti.1.size 0) none (ptrK b (Nat.add off fd.offset) g)
        | none => none)
      | none => none)
    | _ => none)

noncomputable def fieldK (E : Env) (t : TypeId) (x : V) (f : Nat) (g : V → Option R) : Option R :=
  asAgg x none (fun cs => match E.ty.get t with
    | some (_, .struct fs) => (match nthL fs.toList f with
      | some fd => (match E.ty.get fd.type with
        | some ti => partK ti cs fd.offset g
        | none => none)
      | none => none)
    | _ => none)

/-- An index that lies below a bound. -/
noncomputable def insideK (i : Int) (n : Nat) (g : Nat → Option R) : Option R := Int.rec (motive := fun _ => Option R) (fun a => ifB (Nat.ble (Nat.succ a) n) (g a) none) (fun _ => none) i

noncomputable def indexAddrK (E : Env) (t : TypeId) (x ix : V) (g : V → Option R) : Option R :=
  asI ix none (fun _ i => match E.ty.get t with
    | some (_, .array n elem) => asP x none (fun b off => match E.ty.get elem with
      | some e => insideK i n (fun j => ptrK b (Nat.add off (Nat.mul j e.1.size)) g)
      | none => none)
    | some (_, .slice elem) => asSl x none (fun b off len _ => match E.ty.get elem with
      | some e => insideK i len (fun j => ptrK b (Nat.add off (Nat.mul j e.1.size)) g)
      | none => none)
    | _ => none)

noncomputable def indexK (E : Env) (t : TypeId) (x ix : V) (g : V → Option R) : Option R :=
  asI ix none (fun _ i => match E.ty.get t with
    | some (_, .array n elem) => asAgg x none (fun cs => match E.ty.get elem with
      | some e => insideK i n (fun j => partK e cs (Nat.mul j e.1.size) g)
      | none => none)
    | some (_, .string) => asS x none (fun s => Int.rec (motive := fun _ => Option R) (fun a => match nthL s a with | some b => fN b.toNat (fun c => g (.i .u8 (.ofNat c))) | none => none) (fun _ => none) i)
    | _ => none)

/-- A bound of a slice expression: from 0 to a limit. -/
noncomputable def bnd (v : V) (n : Nat) : Option Nat := asI v none (fun _ i => Int.rec (motive := fun _ => Option Nat) (fun a => ifB (Nat.ble a n) (some a) none) (fun _ => none) i)

noncomputable def bndO (v : Option V) (n d : Nat) : Option Nat := match v with | some v => bnd v n | none => some d

/-- low and high below a limit. -/
noncomputable def bnds2 (len m : Nat) (lo hi : Option V) : Option (Nat × Nat) :=
  match bndO hi m len with
  | none => none
  | some hg => match bndO lo hg 0 with
    | none => none
    | some l => some (l, hg)

noncomputable def slK (b off l s n c : Nat) (same : Bool) (g : V → Option R) : Option R :=
  fN (ifB same off (Nat.add off (Nat.mul l s))) (fun off => fN n (fun n => fN c (fun c => g (.sl b off n c))))

/-- A slice expression with a max has a high. -/
def hiOk (hi mx : Option V) : Bool := match mx, hi with | some _, none => false | _, _ => true

/-- A slice of memory with an exact capacity. -/
noncomputable def sliceExactK (b off len cap s : Nat) (lo hi mx : Option V) (g : V → Option R) : Option R :=
  ifB (hiOk hi mx) (ifB (Nat.ble (Nat.succ cap) openCap) (match bndO mx cap cap with
  | none => none
  | some m => match bnds2 len m lo hi with
    | some (l, hg) => slK b off l s (Nat.sub hg l) (Nat.sub m l) (Nat.beq m l) g
    | none => none) none) none

/-- A slice of a slice whose capacity is open: 'low' elements are known to be there. -/
noncomputable def sliceOpenK (b off len low s : Nat) (lo hi mx : Option V) (g : V → Option R) : Option R :=
  match mx with
  | some v => ifB (hiOk hi mx) (match bnd v low with
    | none => none
    | some m => ifB (Nat.ble (Nat.succ m) openCap) (match bnds2 len m lo hi with
      | some (l, hg) => slK b off l s (Nat.sub hg l) (Nat.sub m l) (Nat.beq m l) g
      | none => none) none) none
  | none => match bnds2 len low lo hi with
    | none => none
    | some (l, hg) => ifB (Nat.beq l 0) (slK b off 0 s hg (Nat.add openCap s) true g)
          (ifB (Nat.ble (Nat.succ l) low) (slK b off l s (Nat.sub hg l) (Nat.add openCap s) false g) none)

noncomputable def sliceOpenH (h : Heap) (b off len cap s : Nat) (lo hi mx : Option V) (g : V → Option R) : Option R :=
  match h.get b with
  | some (.cells _ m _) => ifB (Nat.beq s 0) none (ifB (Nat.beq cap (Nat.add openCap s)) (ifB (Nat.ble off m) (sliceOpenK b off len (Nat.div (Nat.sub m off) s) s lo hi mx g) none) none)
  | _ => none

noncomputable def sliceK (E : Env) (t : TypeId) (x : V) (lo hi mx : Option V) (h : Heap) (g : V → Option R) : Option R :=
  match E.ty.get t with
  | some (_, d) => match d, x with
    | .array n elem, .p b off => (match E.ty.get elem with
      | some e => sliceExactK b off n n e.1.size lo hi mx g
      | none => none)
    | .string, .s s => (match mx with
      | some _ => none
      | none => (match bnds2 (lenL s) (lenL s) lo hi with
        | some (l, hg) => fL (takeL (dropL s l) (Nat.sub hg l)) (fun r => g (.s r))
        | none => none))
    | .slice elem, .sl0 len cap => (match E.ty.get elem with
      | some _ => ifB (hiOk hi mx) (match bndO mx cap cap with
        | none => none
        | some m => (match bnds2 len m lo hi with
          | some (l, hg) => g (.sl0 (Nat.sub hg l) (Nat.sub m l))
          | none => none)) none
      | none => none)
    | .slice elem, .sl b off len cap => (match E.ty.get elem with
      | some e => ifB (Nat.ble openCap cap) (sliceOpenH h b off len cap e.1.size lo hi mx g) (sliceExactK b off len cap e.1.size lo hi mx g)
      | none => none)
    | _, _ => none
  | none => none

noncomputable def charsV (l : List UInt8) : List V := mapL (fun c : UInt8 => V.i .u8 (.ofNat c.toNat)) l

/-- The first cells of a slice, or of a string. -/
noncomputable def firstC (h : Heap) (s n : Nat) (x : V) : Option (List V) := match x with
  | .sl0 _ _ => some []
  | .sl b off _ _ => ldK h b off (Nat.mul n s) some
  | .s l => some (charsV (takeL l n))
  | _ => none

noncomputable def lenV (x : V) : Option Nat := match x with | .sl0 n _ => some n | .sl _ _ n _ => some n | .s l => some (lenL l) | _ => none

def isIntD : TypeDesc → Bool | .int _ => true | _ => false

noncomputable def appendedV (e : TypeInfo) (x : V) (h : Heap) : Option (Nat × List V) :=
  match lenV x with | some n => (match firstC h e.size n x with | some l => some (n, l) | none => none) | none => none

noncomputable def appendedZ (e : TypeInfo) (x : V) : Option (Nat × List V) := match x with
  | .i _ (.ofNat n) => ifB (Nat.ble (Nat.mul n e.bytes) 281474976710656) (ifB (Nat.ble n 9223372036854775807) (match zeroL e with | some z => some (n, repL z n) | none => none) none) none
  | _ => none

/-- What is appended: how many, and their cells. -/
noncomputable def appended (E : Env) (ats : List TypeId) (e : TypeInfo) (x : V) (h : Heap) : Option (Nat × List V) :=
  match nthL ats 1 with
  | some xt => match E.ty.get xt with
    | some i => ifB (isIntD i.2) (appendedZ e x) (appendedV e x h)
    | none => none
  | none => appendedV e x h

/-- Is there memory for so many elements, twice? -/
def roomy (e : TypeInfo) (need : Nat) : Bool := Nat.ble (Nat.mul (Nat.mul 2 need) e.bytes) 281474976710656

noncomputable def appOpen (e : TypeInfo) (b off len cap n : Nat) (new : List V) (h : Heap) (nx : Nat) : ORes :=
  match h.get b with
  | some (.cells _ m ro) => ifB (Nat.beq cap (Nat.add openCap e.size)) (ifB ro .stuck (ifB (cellsOk new) (ifB (Nat.beq (lenL new) (Nat.mul n e.size))
      (ifB (Nat.ble (Nat.add off (Nat.mul (Nat.add len n) e.size)) m)
        (.val (.sl b off (Nat.add len n) cap) (.wr b (Nat.add off (Nat.mul len e.size)) new))
        (ifB (Nat.beq off 0) (ifB (roomy e (Nat.add len n)) (ifB (Nat.ble (Nat.mul len e.size) m)
          (.val (.sl nx 0 (Nat.add len n) cap) (.mv b (Nat.mul len e.size) new)) .stuck) .stuck) .stuck)) .stuck) .stuck)) .stuck
  | _ => .stuck

noncomputable def appNew (e : TypeInfo) (old : Option (List V)) (len n : Nat) (new : List V) (nx : Nat) : ORes :=
  ifB (cellsOk new) (ifB (roomy e (Nat.add len n)) (match old with
      | some old => ifB (Nat.beq (lenL (appL old new)) (Nat.mul (Nat.add len n) e.size)) (.val (.sl nx 0 (Nat.add len n) (Nat.add openCap e.size)) (.new (appL old new))) .stuck
      | none => .stuck) .stuck) .stuck

noncomputable def oAppendTo (e : TypeInfo) (n : Nat) (new : List V) (s : V) (h : Heap) (nx : Nat) : ORes := match s with
  | .sl0 len cap => ifB (Nat.ble openCap cap) .stuck (ifB (Nat.ble (Nat.add len n) cap) (.val (.sl0 (Nat.add len n) cap) .no) (appNew e (some []) len n new nx))
  | .sl b off len cap => ifB (Nat.ble openCap cap) (appOpen e b off len cap n new h nx)
      (ifB (Nat.ble (Nat.add len n) cap)
        (ifB (stOk h b (Nat.add off (Nat.mul len e.size)) new) (.val (.sl b off (Nat.add len n) cap) (.wr b (Nat.add off (Nat.mul len e.size)) new)) .stuck)
        (appNew e (ldK h b off (Nat.mul len e.size) some) len n new nx))
  | _ => .stuck

noncomputable def oAppend (E : Env) (ats : List TypeId) (s x : V) (h : Heap) (nx : Nat) : ORes :=
  match nthL ats 0 with
  | none => .stuck
  | some st => match E.ty.get st with
    | some (_, .slice elem) => match E.ty.get elem with
      | some (e, _) => match zeroL e with
        | some z => ifB (Nat.beq (lenL z) e.size) (ifB (Nat.beq e.size 0) .stuck (ifB (Nat.beq e.bytes 0) .stuck (match appended E ats e x h with
          | none => .stuck
          | some (n, new) => oAppendTo e n new s h nx))) .stuck
        | none => .stuck
      | none => .stuck
    | _ => .stuck

noncomputable def minN (a b : Nat) : Nat := ifB (Nat.ble a b) a b

noncomputable def oCopy (E : Env) (ats : List TypeId) (d x : V) (h : Heap) : ORes :=
  match nthL ats 0 with
  | none => .stuck
  | some st => match E.ty.get st, lenV x with
    | some (_, .slice elem), some n => match E.ty.get elem with
      | some (e, _) => match d with
        | .sl0 dl _ => (match firstC h e.size (minN n dl) x with | some _ => .val (.i .i64 (.ofNat (minN n dl))) .no | none => .stuck)
        | .sl b off dl _ => (match firstC h e.size (minN n dl) x with
          | some l => ifB (stOk h b off l) (.val (.i .i64 (.ofNat (minN n dl))) (.wr b off l)) .stuck
          | none => .stuck)
        | _ => .stuck
      | none => .stuck
    | _, _ => .stuck

noncomputable def natK (n : Nat) (g : V → Option R) : Option R := fN n (fun n => g (.i .i64 (.ofNat n)))

noncomputable def lenK (E : Env) (ats : List TypeId) (x : V) (g : V → Option R) : Option R :=
  match nthL ats 0 with
  | none => none
  | some t => match E.ty.get t with
    | some (_, .string) => asS x none (fun s => natK (lenL s) g)
    | some (_, .slice _) => asSl x (match x with | .sl0 n _ => natK n g | _ => none) (fun _ _ n _ => natK n g)
    | some (_, .array n _) => natK n g
    | _ => none

noncomputable def capK (E : Env) (ats : List TypeId) (x : V) (g : V → Option R) : Option R :=
  match nthL ats 0 with
  | none => none
  | some t => match E.ty.get t with
    | some (_, .slice _) => (match x with
      | .sl0 _ c => ifB (Nat.ble openCap c) none (natK c g)
      | .sl _ _ _ c => ifB (Nat.ble openCap c) none (natK c g)
      | _ => none)
    | _ => none

noncomputable def max2 (x y : V) : Option V := asI x none (fun k a => asI y none (fun _ b => some (.i k (ifB (intLt a b) b a))))
noncomputable def min2 (x y : V) : Option V := asI x none (fun k a => asI y none (fun _ b => some (.i k (ifB (intLt b a) b a))))

noncomputable def foldV (f : V → V → Option V) (l : List V) : V → Option V :=
  List.rec (motive := fun _ => V → Option V) (fun v => some v) (fun y _ ih v => match f v y with | some w => ih w | none => none) l

noncomputable def foldK (f : V → V → Option V) (l : List V) (g : V → Option R) : Option R :=
  match l with | [] => none | x :: r => (match foldV f r x with | some v => asI v none (fun k n => gI k n g) | none => none)

noncomputable def bytesOf (l : List V) : Option (List UInt8) :=
  List.rec (motive := fun _ => Option (List UInt8)) (some []) (fun v _ ih => match v with | .i .u8 n => (match ih with | some r => some (UInt8.ofNat n.toNat :: r) | none => none) | _ => none) l

noncomputable def oToBytes (E : Env) (el : TypeId) (s : List UInt8) (nx : Nat) : ORes := match E.ty.get el with
  | some (_, .int .u8) => .val (.sl nx 0 (lenL s) (Nat.add openCap 1)) (.new (charsV s))
  | _ => .stuck

noncomputable def toStrL (l : List V) : Option V := match bytesOf l with | some r => fL r (fun r => some (.s r)) | none => none

noncomputable def toStr (E : Env) (el : TypeId) (x : V) (h : Heap) : Option V := match E.ty.get el with
  | some (_, .int .u8) => (match x with
    | .sl0 _ _ => some (.s [])
    | .sl b off len _ => ldK h b off len toStrL
    | _ => none)
  | _ => none

noncomputable def oOpt (v : Option V) : ORes := match v with | some v => .val v .no | none => .stuck

noncomputable def oConvert (E : Env) (src dst : TypeId) (x : V) (h : Heap) (nx : Nat) : ORes :=
  match E.ty.get src, E.ty.get dst with
  | some (_, sd), some (_, dd) => match dd with
    | .int k => asI x .stuck (fun _ n => wrK k n (fun n => .val (.i k n) .no))
    | .string => (match x with
      | .s s => .val (.s s) .no
      | x => (match sd with | .slice el => oOpt (toStr E el x h) | _ => .stuck))
    | .slice el => (match x with
      | .s s => (match sd with | .string => oToBytes E el s nx | _ => .stuck)
      | .sl b off n c => (match sd, E.ty.get el with
        | .slice _, some (_, .int .u8) => ifB (Nat.beq src dst) (ifB (stOk h b 0 []) (.val (.sl b off n c) (.wr b 0 [])) .stuck) .stuck
        | _, _ => .stuck)
      | _ => .stuck)
    | _ => .stuck
  | _, _ => .stuck

noncomputable def oMakeSlice (E : Env) (t : TypeId) (l c : V) (nx : Nat) : ORes :=
  match E.ty.get t, l, c with
  | some (_, .slice elem), .i _ (.ofNat l), .i _ (.ofNat c) => match E.ty.get elem with
    | some (e, _) => match zeroL e with
      | some z => ifB (Nat.ble l c) (ifB (Nat.beq (lenL z) e.size) (ifB (Nat.ble (Nat.mul e.bytes c) 281474976710656) (ifB (Nat.ble c 4611686018427387903) (ifB (cellsOk z)
          (.val (.sl nx 0 l c) (.new (repL z c))) .stuck) .stuck) .stuck) .stuck) .stuck
      | none => .stuck
    | none => .stuck
  | _, _, _ => .stuck

noncomputable def keyFind (k : List UInt8) (es : List (List UInt8 × V)) : Option V :=
  List.rec (motive := fun _ => Option V) none (fun p _ ih => ifB (bytesEq k p.1) (some p.2) ih) es

noncomputable def keyPut (k : List UInt8) (v : V) (es : List (List UInt8 × V)) : List (List UInt8 × V) :=
  List.rec (motive := fun _ => List (List UInt8 × V)) [(k, v)] (fun p t ih => ifB (bytesEq k p.1) ((k, v) :: t) (p :: ih)) es

noncomputable def mapOf (r : V) (h : Heap) : Option (List (List UInt8 × V)) := match r with
  | .m0 => some []
  | .m b => (match h.get b with | some (.map es) => some es | _ => none)
  | _ => none

noncomputable def oLookup (E : Env) (t : TypeId) (m k : V) (ok : Bool) (h : Heap) : ORes :=
  match E.ty.get t, k with
  | some (_, .map kt el), .s s => match E.ty.get kt, E.ty.get el with
    | some (_, .string), some (e, _) => match mapOf m h, e.zero with
      | some es, some z => match keyFind s es with
        | some v => .val (ifB ok (.tup [v, .b true]) v) .no
        | none => .val (ifB ok (.tup [ofVal z, .b false]) (ofVal z)) .no
      | _, _ => .stuck
    | _, _ => .stuck
  | _, _ => .stuck

noncomputable def oMapUpdate (E : Env) (t : TypeId) (m k v : V) (h : Heap) : ORes :=
  match E.ty.get t, m, k with
  | some (_, .map kt _), .m b, .s s => match E.ty.get kt, h.get b with
    | some (_, .string), some (.map es) => .val undefV (.upd b (.map (keyPut s v es)))
    | _, _ => .stuck
  | _, _, _ => .stuck

noncomputable def oMakeMap (r : Option Operand) (nx : Nat) : ORes := match r with | none => .val (.m nx) (.mk (.map [])) | some _ => .stuck

noncomputable def oTypeAssert (E : Env) (x : V) (asserted : TypeId) (ok : Bool) : ORes :=
  match E.ty.get asserted with
  | some (i, d) => match d with
    | .interface _ => .stuck
    | _ => match x with
      | .n t v => ifB (Nat.beq t asserted) (.val (ifB ok (.tup [v, .b true]) v) .no)
          (ifB ok (match i.zero with | some z => .val (.tup [ofVal z, .b false]) .no | none => .stuck) .stuck)
      | .n0 => ifB ok (match i.zero with | some z => .val (.tup [ofVal z, .b false]) .no | none => .stuck) .stuck
      | _ => .stuck
  | none => .stuck

noncomputable def extractK (x : V) (i : Nat) (g : V → Option R) : Option R := asTup x none (fun l => match nthL l i with | some v => fH v g | none => none)

noncomputable def nilCheckK (x : V) (g : V → Option R) : Option R :=
  asP x (match x with
    | .n t v => g (.n t v)
    | .f f a b => g (.f f a b)
    | .sl b off n c => g (.sl b off n c)
    | .sl0 n c => g (.sl0 n c)
    | .m b => g (.m b)
    | .m0 => g .m0
    | .i k n => g (.i k n)
    | _ => none) (fun b off => g (.p b off))

noncomputable def oRange (E : Env) (t : TypeId) (x : V) (nx : Nat) : ORes :=
  match E.ty.get t, x with
  | some (_, .string), .s s => .val (.p nx 0) (.mk (.iter s 0))
  | _, _ => .stuck

noncomputable def oNext (it : V) (isString : Bool) (h : Heap) : ORes :=
  match it, isString with
  | .p b 0, true => match h.get b with
    | some (.iter s pos) => match nthL s pos with
      | none => .val (.tup [.b false]) .no
      | some c => ifB (Nat.ble c.toNat 127) (fN c.toNat (fun c => fN (Nat.succ pos) (fun pos' => .val (.tup [.b true, .i .i64 (.ofNat pos), .i .i32 (.ofNat c)]) (.upd b (.iter s pos'))))) .stuck
    | _ => .stuck
  | _, _ => .stuck

noncomputable def oPanic (x : V) : ORes := match x with | .n t v => .pan (.n t v) | _ => .stuck

/-- A function value is called. -/
noncomputable def oCallV (f : V) (args : List V) : ORes := asF f .stuck (fun g first cap => .call g (appL first (appL args cap)))

noncomputable def builtinK (E : Env) (b : Builtin) (ats : List TypeId) (args : List V) (h : Heap) (nx : Nat) (g : V → Option R) (ke : ORes → Option R) : Option R :=
  match b with
  | .append => (match args with | [s, x] => ke (oAppend E ats s x h nx) | _ => none)
  | .copy => (match args with | [s, x] => ke (oCopy E ats s x h) | _ => none)
  | .len => (match args with | [x] => lenK E ats x g | _ => none)
  | .cap => (match args with | [x] => capK E ats x g | _ => none)
  | .max => foldK max2 args g
  | .min => foldK min2 args g
  | .panic => (match args with | [x] => ke (oPanic x) | _ => none)
  | .recover => ke .recov
  | _ => none

noncomputable def callOpK (E : Env) (c : Call) (tm : T V) (h : Heap) (nx : Nat) (g : V → Option R) (ke : ORes → Option R) : Option R :=
  Callee.rec (motive := fun _ => Env → Call → T V → Heap → Nat → (V → Option R) → (ORes → Option R) → Option R) (fun f _ c tm _ _ _ ke => ke (oCallV (ev tm f) (evs tm c.args.toList))) (fun _ _ _ _ _ _ _ _ _ => none) (fun b E c tm h nx g ke => builtinK E b c.argTypes.toList (evs tm c.args.toList) h nx g ke) c.callee E c tm h nx g ke

noncomputable def oDefer (c : Call) (tm : T V) : ORes := match c.callee with
  | .value f => asF (ev tm f) .stuck (fun g first cap => .dfr g (appL first (appL (evs tm c.args.toList) cap)))
  | _ => .stuck

noncomputable def optE (tm : T V) (o : Option Operand) : Option V := match o with | some x => some (ev tm x) | none => none

noncomputable def partsV (tm : T V) (l : Array (Nat × Operand)) : List (Nat × V) := mapL (fun p : Nat × Operand => (p.1, ev tm p.2)) l.toList

noncomputable def pickK (c a b : V) (g : V → Option R) : Option R := asB c none (fun t => ifB t (fH a g) (fH b g))

noncomputable def makeIfaceK (E : Env) (t : TypeId) (x : V) (g : V → Option R) : Option R :=
  match E.ty.get t with | some (_, d) => (match d with | .interface _ => none | _ => fH x (fun x => g (.n t x))) | none => none

noncomputable def makeFuncK (f : Fn) (first cap : List V) (g : V → Option R) : Option R := match f with | .func h => fHs first (fun first => fHs cap (fun cap => g (.f h first cap))) | _ => none
end

section
variable (R : Type) (E : Env)
abbrev OpF := T V → Heap → Nat → (V → Option R) → (ORes → Option R) → Option R
variable {R}
noncomputable def xMove (x : Operand) : OpF R := fun tm _ _ g _ => fH (ev tm x) g
noncomputable def xPick (c a b : Operand) : OpF R := fun tm _ _ g _ => pickK (ev tm c) (ev tm a) (ev tm b) g
noncomputable def xAlloc (t : TypeId) : OpF R := fun _ _ nx _ k => k (oAllocT E t nx)
noncomputable def xBox (x : Operand) : OpF R := fun tm _ nx _ k => k (oAlloc (cellsL (ev tm x)) nx)
noncomputable def xBuild (t : TypeId) (parts : Array (Nat × Operand)) : OpF R := fun tm _ _ g _ => buildK E t (partsV tm parts) g
noncomputable def xBuildSlice (t : TypeId) (len : Nat) (parts : Array (Nat × Operand)) : OpF R := fun tm _ nx _ k => k (oBuildSlice E t len (partsV tm parts) nx)
noncomputable def xLoad (t : TypeId) (a : Operand) : OpF R := fun tm h _ g _ => loadK E t (ev tm a) h g
noncomputable def xStore (t : TypeId) (a x : Operand) : OpF R := fun tm h _ _ k => k (oStore E t (ev tm a) (ev tm x) h)
noncomputable def xNilCheck (x : Operand) : OpF R := fun tm _ _ g _ => nilCheckK (ev tm x) g
noncomputable def isCst (x : Operand) : Bool := Operand.rec (motive := fun _ => Bool) (fun _ => false) (fun _ => true) (fun _ => false) (fun _ => false) x
noncomputable def xBin (op : BinOp) (t : TypeId) (x y : Operand) : OpF R := fun tm _ _ g _ => binK E (ifB (isCst x) true (isCst y)) op t (ev tm x) (ev tm y) g
noncomputable def xUn (op : UnOp) (x : Operand) : OpF R := fun tm _ _ g _ => unK op (ev tm x) g
noncomputable def xConvert (s d : TypeId) (x : Operand) : OpF R := fun tm h nx _ k => k (oConvert E s d (ev tm x) h nx)
noncomputable def xMakeIface (t : TypeId) (x : Operand) : OpF R := fun tm _ _ g _ => makeIfaceK E t (ev tm x) g
noncomputable def xMakeFunc (f : Fn) (a b : Array Operand) : OpF R := fun tm _ _ g _ => makeFuncK f (evs tm a.toList) (evs tm b.toList) g
noncomputable def xMakeMap (r : Option Operand) : OpF R := fun _ _ nx _ k => k (oMakeMap r nx)
noncomputable def xMakeSlice (t : TypeId) (l c : Operand) : OpF R := fun tm _ nx _ k => k (oMakeSlice E t (ev tm l) (ev tm c) nx)
noncomputable def xSlice (t : TypeId) (x : Operand) (lo hi mx : Option Operand) : OpF R := fun tm h _ g _ => sliceK E t (ev tm x) (optE tm lo) (optE tm hi) (optE tm mx) h g
noncomputable def xFieldAddr (s : TypeId) (x : Operand) (f : Nat) : OpF R := fun tm _ _ g _ => fieldAddrK E s (ev tm x) f g
noncomputable def xField (s : TypeId) (x : Operand) (f : Nat) : OpF R := fun tm _ _ g _ => fieldK E s (ev tm x) f g
noncomputable def xIndexAddr (t : TypeId) (x i : Operand) : OpF R := fun tm _ _ g _ => indexAddrK E t (ev tm x) (ev tm i) g
noncomputable def xIndex (t : TypeId) (x i : Operand) : OpF R := fun tm _ _ g _ => indexK E t (ev tm x) (ev tm i) g
noncomputable def xLookup (t : TypeId) (m k : Operand) (ok : Bool) : OpF R := fun tm h _ _ c => c (oLookup E t (ev tm m) (ev tm k) ok h)
noncomputable def xMapUpdate (t : TypeId) (m k v : Operand) : OpF R := fun tm h _ _ c => c (oMapUpdate E t (ev tm m) (ev tm k) (ev tm v) h)
noncomputable def xRange (t : TypeId) (x : Operand) : OpF R := fun tm _ nx _ k => k (oRange E t (ev tm x) nx)
noncomputable def xNext (it : Operand) (s : Bool) : OpF R := fun tm h _ _ k => k (oNext (ev tm it) s h)
noncomputable def xTypeAssert (x : Operand) (a : TypeId) (ok : Bool) : OpF R := fun tm _ _ _ k => k (oTypeAssert E (ev tm x) a ok)
noncomputable def xExtract (x : Operand) (i : Nat) : OpF R := fun tm _ _ g _ => extractK (ev tm x) i g
noncomputable def xCall (c : Call) : OpF R := fun tm h nx g k => callOpK E c tm h nx g k
noncomputable def xDefer (c : Call) : OpF R := fun tm _ _ _ k => k (oDefer c tm)
noncomputable def xPanic (x : Operand) : OpF R := fun tm _ _ _ k => k (oPanic (ev tm x))
noncomputable def xStuck : OpF R := fun _ _ _ _ _ => none

/-- One operation. -/
noncomputable def opR (o : Op) : OpF R :=
  Op.rec (motive := fun _ => Env → OpF R) (fun x _ => xMove x) (fun x _ => xMove x) (fun c x y _ => xPick c x y) (fun t E => xAlloc E t) (fun _ x _ => xBox x) (fun t ps E => xBuild E t ps) (fun t n ps E => xBuildSlice E t n ps) (fun _ _ _ _ _ => xStuck) (fun t x E => xLoad E t x) (fun t x y E => xStore E t x y) (fun _ _ => xStuck) (fun _ _ => xStuck)
    (fun x _ => xNilCheck x) (fun op t x y _ E => xBin E op t x y) (fun op _ x _ => xUn op x) (fun s d x E => xConvert E s d x) (fun _ _ _ => xStuck) (fun t x E => xMakeIface E t x) (fun f x y _ => xMakeFunc f x y) (fun _ r _ => xMakeMap r) (fun _ _ _ => xStuck) (fun t l c E => xMakeSlice E t l c)
    (fun t x lo hi mx E => xSlice E t x lo hi mx) (fun s x f E => xFieldAddr E s x f) (fun s x f E => xField E s x f) (fun t x i E => xIndexAddr E t x i) (fun t x i E => xIndex E t x i) (fun t m k ok E => xLookup E t m k ok) (fun t m k v E => xMapUpdate E t m k v) (fun _ _ _ _ => xStuck) (fun _ _ _ _ _ => xStuck) (fun t x E => xRange E t x) (fun it s _ => xNext it s) (fun _ _ => xStuck)
    (fun x _ a ok E => xTypeAssert E x a ok) (fun x i _ => xExtract x i) (fun c E => xCall E c) (fun _ _ => xStuck) (fun c _ => xDefer c) (fun x _ => xPanic x) (fun _ _ _ => xStuck) (fun _ _ _ _ => xStuck) (fun _ _ _ => xStuck) o E
end

/-! Summed up functions: what they return, reckoned at once. -/

noncomputable def idxByte (c : Nat) (l : List UInt8) : Nat → V :=
  List.rec (motive := fun _ => Nat → V) (fun _ => .i .i64 (.negSucc 0)) (fun x _ ih i => ifB (Nat.beq x.toNat c) (.i .i64 (.ofNat i)) (fN (Nat.succ i) ih)) l

/-- The place of a byte in a string. -/
noncomputable def sIndexByte (args : List V) (_ : Heap) : Option V := match args with
  | [.s l, .i .u8 (.ofNat c)] => ifB (Nat.ble c 255) (some (idxByte c l 0)) none
  | _ => none

/-- Is a value of this kind: 0 a truth, 1 an int, else a string? -/
noncomputable def tyOk1 (c : Nat) (v : V) : Bool :=
  Nat.rec (motive := fun _ => V → Bool) (fun v => asB v false (fun _ => true)) (fun c _ => Nat.rec (motive := fun _ => V → Bool) (fun v => asI v false (fun k _ => kindEq k .i64)) (fun _ _ v => asS v false (fun _ => true)) c) c v

noncomputable def tyOk (cs : List Nat) : List V → Bool :=
  List.rec (motive := fun _ => List V → Bool) (fun l => List.rec (motive := fun _ => Bool) true (fun _ _ _ => false) l) (fun c _ ih l => List.rec (motive := fun _ => Bool) false (fun v r _ => ifB (tyOk1 c v) (ih r) false) l) cs

/-- What is found so far, behind one row more. -/
noncomputable def rowR (cs : List Nat) (key l : List V) (i : Nat) (z : Int) (k : Int → Option V) : Option V :=
  Int.rec (motive := fun _ => Option V) (fun a => k (.ofNat a)) (fun a => match plainEq cs l key with | some b => ifB b (k (.ofNat i)) (k (.negSucc a)) | none => none) z

/-- The first row, of so many in steps of one size, that begins with these cells; all rows are of these kinds. -/
noncomputable def rowsF (cs : List Nat) (wd step : Nat) (c : T V) (key : List V) (n : Nat) : Nat → Nat → Int → Option V :=
  Nat.rec (motive := fun _ => Nat → Nat → Int → Option V) (fun _ _ z => some (.i .i64 z))
    (fun _ ih i off z => rdK c wd off (fun l => ifB (tyOk cs l) (rowR cs key l i z (fun z => fN (Nat.add off step) (fun off => fN (Nat.succ i) (fun i => ih i off z)))) none)) n

/-- 'at' of a dictionary: the pairs' slice lies 'fld' cells behind the pointer. -/
noncomputable def sPairs (fld : Nat) (cs : List Nat) (wd step : Nat) (args : List V) (h : Heap) : Option V := match args with
  | [.p d off, .agg key] => ifB (tyOk cs key) (match h.get d with
    | some (.cells c m _) => ifB (Nat.ble (Nat.succ (Nat.add off fld)) m) (match rd c (Nat.add off fld) with
      | .sl0 n _ => ifB (Nat.beq n 0) (some (.i .i64 (.negSucc 0))) none
      | .sl b o n _ => (match h.get b with
        | some (.cells c m _) => ifB (Nat.ble n 4611686018427387904) (ifB (Nat.ble (Nat.add o (Nat.mul n step)) m) (rowsF cs wd step c key n 0 o (.negSucc 0)) none) none
        | _ => none)
      | _ => none) none
    | _ => none) none
  | _ => none

end Go.AM
