/- THE ABSTRACT MACHINE, part 5: what an abstract state says of the model's world. -/
import Derived.Test.YtghphioodlkcdaaGreatDoorAm4
namespace Go.AM
open Go

/-- Where names are: a block of the world, and how many cells it has. -/
abbrev Mu := Nat → Option (Nat × Nat)

mutual
/-- An abstract value stands for a value of the model. -/
inductive VR (μ : Mu) : V → Value → Prop where
  | i (k : IntKind) (n : Int) : VR μ (.i k n) (.int k n)
  | b (c : Bool) : VR μ (.b c) (.bool c)
  | s (l : List UInt8) : VR μ (.s l) (.string ⟨⟨l⟩⟩)
  | p0 : VR μ .p0 (.pointer none)
  | p {b B N : Nat} (o : Nat) (h : μ b = some (B, N)) : VR μ (.p b o) (.pointer (some ⟨B, o, none⟩))
  | sl0 (n c : Nat) : VR μ (.sl0 n c) (.slice none n c)
  | sl {b B N : Nat} (o n c : Nat) (h : μ b = some (B, N)) (hc : c < openCap) : VR μ (.sl b o n c) (.slice (some ⟨B, o, none⟩) n c)
  | slO {b B N : Nat} (o n s c : Nat) (h : μ b = some (B, N)) (hs : 0 < s) (hN : o + c * s = N) (hc : n ≤ c) : VR μ (.sl b o n (openCap + s)) (.slice (some ⟨B, o, none⟩) n c)
  | m0 : VR μ .m0 (.map none)
  | m {b B N : Nat} (h : μ b = some (B, N)) : VR μ (.m b) (.map (some B))
  | f0 : VR μ .f0 .nilFunc
  | f {first cap : List V} {first' cap' : List Value} (g : FuncId) (h1 : VL μ first first') (h2 : VL μ cap cap') : VR μ (.f g first cap) (.func (.func g) ⟨first'⟩ ⟨cap'⟩)
  | n0 : VR μ .n0 .nilIface
  | n {v : V} {v' : Value} (t : TypeId) (h : VR μ v v') : VR μ (.n t v) (.iface t v')
  | agg {l : List V} {l' : List Value} (h : VL μ l l') : VR μ (.agg l) (.agg ⟨l'⟩)
  | tup {l : List V} {l' : List Value} (h : VL μ l l') : VR μ (.tup l) (.tuple ⟨l'⟩)
  | junk (v : Value) : VR μ .junk v
inductive VL (μ : Mu) : List V → List Value → Prop where
  | nil : VL μ [] []
  | cons {v : V} {v' : Value} {l : List V} {l' : List Value} (h : VR μ v v') (t : VL μ l l') : VL μ (v :: l) (v' :: l')
end

section
variable {μ : Mu}

theorem VL.length {l : List V} {l' : List Value} (h : VL μ l l') : l.length = l'.length := by
  induction l generalizing l' with
  | nil => cases h; rfl
  | cons a r ih => cases h with | cons h t => simp [ih t]

theorem VL.get {l : List V} {l' : List Value} (h : VL μ l l') : ∀ (i : Nat) (v : V), l[i]? = some v → ∃ v', l'[i]? = some v' ∧ VR μ v v' := by
  induction l generalizing l' with
  | nil => intro i v e; simp at e
  | cons a r ih =>
    cases h with | cons h t =>
    intro i v e
    cases i with
    | zero => simp at e; subst e; exact ⟨_, by simp, h⟩
    | succ j => simp at e; obtain ⟨v', e', h'⟩ := ih t j v e; exact ⟨v', by simpa using e', h'⟩

theorem VL.of_get {l : List V} {l' : List Value} (hl : l.length = l'.length) (h : ∀ (i : Nat) (v : V) (v' : Value), l[i]? = some v → l'[i]? = some v' → VR μ v v') : VL μ l l' := by
  induction l generalizing l' with
  | nil => cases l' with
    | nil => exact .nil
    | cons => simp at hl
  | cons a r ih => cases l' with
    | nil => simp at hl
    | cons a' r' => exact .cons (h 0 a a' rfl rfl) (ih (by simpa using hl) fun i v v' e e' => h (i + 1) v v' (by simpa using e) (by simpa using e'))

theorem VL.append {l m : List V} {l' m' : List Value} (h : VL μ l l') (h2 : VL μ m m') : VL μ (l ++ m) (l' ++ m') := by
  induction l generalizing l' with
  | nil => cases h; exact h2
  | cons a r ih => cases h with | cons h t => exact .cons h (ih t)

theorem VL.take {l : List V} {l' : List Value} (h : VL μ l l') (n : Nat) : VL μ (l.take n) (l'.take n) := by
  induction l generalizing l' n with
  | nil => cases h; simp; exact .nil
  | cons a r ih => cases h with | cons h t => cases n with
    | zero => exact .nil
    | succ n => exact .cons h (ih t n)

theorem VL.drop {l : List V} {l' : List Value} (h : VL μ l l') (n : Nat) : VL μ (l.drop n) (l'.drop n) := by
  induction l generalizing l' n with
  | nil => cases h; simp; exact .nil
  | cons a r ih => cases h with | cons h t => cases n with
    | zero => exact .cons h t
    | succ n => exact ih t n

mutual
theorem VR.mono {μ μ' : Mu} (hm : ∀ i x, μ i = some x → μ' i = some x) : ∀ {v : V} {v' : Value}, VR μ v v' → VR μ' v v'
  | _, _, .i k n => .i k n
  | _, _, .b c => .b c
  | _, _, .s l => .s l
  | _, _, .p0 => .p0
  | _, _, .p o h => .p o (hm _ _ h)
  | _, _, .sl0 n c => .sl0 n c
  | _, _, .sl o n c h hc => .sl o n c (hm _ _ h) hc
  | _, _, .slO o n s c h hs hN hc => .slO o n s c (hm _ _ h) hs hN hc
  | _, _, .m0 => .m0
  | _, _, .m h => .m (hm _ _ h)
  | _, _, .f0 => .f0
  | _, _, .f g h1 h2 => .f g (VL.mono hm h1) (VL.mono hm h2)
  | _, _, .n0 => .n0
  | _, _, .n t h => .n t (VR.mono hm h)
  | _, _, .agg h => .agg (VL.mono hm h)
  | _, _, .tup h => .tup (VL.mono hm h)
  | _, _, .junk v => .junk v
theorem VL.mono {μ μ' : Mu} (hm : ∀ i x, μ i = some x → μ' i = some x) : ∀ {l : List V} {l' : List Value}, VL μ l l' → VL μ' l l'
  | _, _, .nil => .nil
  | _, _, .cons h t => .cons (VR.mono hm h) (VL.mono hm t)
end

theorem VR.undef : VR μ undefV undef := .tup .nil

mutual
theorem VR.ofVal : ∀ v : Value, VR μ (ofVal v) v
  | .int k n => .i k n
  | .bool b => .b b
  | .string ⟨⟨l⟩⟩ => .s l
  | .pointer none => .p0
  | .pointer (some _) => .junk _
  | .slice none n c => .sl0 n c
  | .slice (some _) _ _ => .junk _
  | .map none => .m0
  | .map (some _) => .junk _
  | .nilFunc => .f0
  | .nilIface => .n0
  | .agg ⟨l⟩ => .agg (VL.ofVal l)
  | .tuple ⟨l⟩ => .tup (VL.ofVal l)
  | .float _ _ => .junk _
  | .complex _ _ _ => .junk _
  | .chan _ => .junk _
  | .func _ _ _ => .junk _
  | .iface _ _ => .junk _
theorem VL.ofVal : ∀ l : List Value, VL μ (ofVal.go l) l
  | [] => .nil
  | v :: r => .cons (VR.ofVal v) (VL.ofVal r)
end

/-- The cells of a value. -/
theorem cellsL_rel {v : V} {v' : Value} (h : VR μ v v') (hj : v ≠ .junk) : VL μ (cellsL v) v'.cells.toList := by
  have hR := h
  cases h <;> first
    | exact absurd rfl hj
    | exact .cons hR .nil
    | (rename_i h; exact h)

theorem cellOk_one {v : V} {v' : Value} (h : VR μ v v') (hv : cellOk v = true) : v'.oneCell' = true := by
  cases h <;> first | rfl | cases hv

theorem cellsOk_all {l : List V} (h : cellsOk l = true) : ∀ v ∈ l, cellOk v = true := by
  induction l with
  | nil => intro v hv; cases hv
  | cons a r ih =>
    have h' : ifB (cellOk a) (cellsOk r) false = true := h
    rw [ifB_eq] at h'
    by_cases ha : cellOk a = true
    · rw [if_pos ha] at h'
      intro v hv
      cases hv with
      | head => exact ha
      | tail _ hm => exact ih h' v hm
    · rw [if_neg ha] at h'; cases h'

end

/-- An entry of a map. -/
inductive EL (μ : Mu) : List (List UInt8 × V) → List MapEntry → Prop where
  | nil : EL μ [] []
  | cons {k : List UInt8} {v : V} {v' : Value} {l : List (List UInt8 × V)} {l' : List MapEntry} (n : Nat) (h : VR μ v v') (t : EL μ l l') : EL μ ((k, v) :: l) (⟨.string ⟨⟨k⟩⟩, v', n⟩ :: l')

theorem EL.mono {μ μ' : Mu} (hm : ∀ i x, μ i = some x → μ' i = some x) {l : List (List UInt8 × V)} {l' : List MapEntry} (h : EL μ l l') : EL μ' l l' := by
  induction h with
  | nil => exact .nil
  | cons n h t ih => exact .cons n (h.mono hm) ih

/-- A block of abstract memory stands for a block of the world. -/
def BR (μ : Mu) (N : Nat) : Blk → Option Obj → Prop
  | .cells c n _, o => ∃ arr ty lo hi, o = some (.cells arr ty (lo, hi)) ∧ arr.size = N ∧ n ≤ N ∧ (lo = hi ∨ N ≤ lo) ∧ ∀ i, i < n → ∃ v', arr[i]? = some v' ∧ VR μ (rd c i) v'
  | .map es, o => ∃ ces clock, o = some (.map ces clock) ∧ EL μ es ces.toList
  | .iter s pos, o => o = some (.stringIter ⟨⟨s⟩⟩ pos)

theorem BR.mono {μ μ' : Mu} (hm : ∀ i x, μ i = some x → μ' i = some x) {N : Nat} {blk : Blk} {o : Option Obj} (h : BR μ N blk o) : BR μ' N blk o := by
  cases blk with
  | cells c n ro =>
    obtain ⟨arr, ty, lo, hi, e, hs, hn, hf, hc⟩ := h
    exact ⟨arr, ty, lo, hi, e, hs, hn, hf, fun i hi => let ⟨v', e', h'⟩ := hc i hi; ⟨v', e', h'.mono hm⟩⟩
  | map es => obtain ⟨ces, clock, e, h⟩ := h; exact ⟨ces, clock, e, h.mono hm⟩
  | iter s pos => exact h

def Blk.ro : Blk → Bool | .cells _ _ ro => ro | _ => false

/-- The blocks of the world that the abstract memory may write. -/
def own (μ : Mu) (h : Heap) (B : Nat) : Prop := ∃ i blk N, h.get i = some blk ∧ μ i = some (B, N) ∧ blk.ro = false

/-- Abstract memory stands for the world. -/
structure G (μ : Mu) (h : Heap) (nx : Nat) (w : World) : Prop where
  blk : ∀ i b B N, h.get i = some b → μ i = some (B, N) → BR μ N b w.heap[B]?
  inj : ∀ i j bi bj B N M, h.get i = some bi → h.get j = some bj → μ i = some (B, N) → μ j = some (B, M) → i = j
  fresh : ∀ i, nx ≤ i → μ i = none ∧ h.get i = none
  low : ∀ i B N, μ i = some (B, N) → B < w.heap.size

/-- What becomes of memory and world from one time to another. -/
structure Ext (μ : Mu) (h : Heap) (nx : Nat) (w : World) (μ' : Mu) (h' : Heap) (nx' : Nat) (w' : World) : Prop where
  mu : ∀ i x, μ i = some x → μ' i = some x
  nxle : nx ≤ nx'
  old : ∀ i, i < nx → μ i = none → μ' i = none
  unt : ∀ i, i < nx → μ i = none → h'.get i = h.get i
  ro : ∀ i b, h.get i = some b → b.ro = true → h'.get i = some b
  size : w.heap.size ≤ w'.heap.size
  keep : ∀ B, B < w.heap.size → ¬ own μ h B → w'.heap[B]? = w.heap[B]?
  own' : ∀ B, B < w.heap.size → own μ' h' B → own μ h B
  os : w'.os = w.os
  out : w'.output = w.output
  tape : w'.tape = w.tape

theorem Ext.refl (μ : Mu) (h : Heap) (nx : Nat) (w : World) : Ext μ h nx w μ h nx w :=
  ⟨fun _ _ e => e, Nat.le_refl _, fun _ _ e => e, fun _ _ _ => rfl, fun _ _ e _ => e, Nat.le_refl _, fun _ _ _ => rfl, fun _ _ e => e, rfl, rfl, rfl⟩

theorem Ext.trans {μ h nx w μ1 h1 nx1 w1 μ2 h2 nx2 w2} (a : Ext μ h nx w μ1 h1 nx1 w1) (b : Ext μ1 h1 nx1 w1 μ2 h2 nx2 w2) : Ext μ h nx w μ2 h2 nx2 w2 where
  mu := fun i x e => b.mu i x (a.mu i x e)
  nxle := Nat.le_trans a.nxle b.nxle
  old := fun i hi e => b.old i (Nat.lt_of_lt_of_le hi a.nxle) (a.old i hi e)
  unt := fun i hi e => (b.unt i (Nat.lt_of_lt_of_le hi a.nxle) (a.old i hi e)).trans (a.unt i hi e)
  ro := fun i x e hr => b.ro i x (a.ro i x e hr) hr
  size := Nat.le_trans a.size b.size
  keep := fun B hB hn => (b.keep B (Nat.lt_of_lt_of_le hB a.size) (fun ho => hn (a.own' B hB ho))).trans (a.keep B hB hn)
  own' := fun B hB ho => a.own' B hB (b.own' B (Nat.lt_of_lt_of_le hB a.size) ho)
  os := b.os.trans a.os
  out := b.out.trans a.out
  tape := b.tape.trans a.tape

/-- Only a draw: nothing of memory turns. -/
theorem Ext.drew {μ h nx} {w w' : World} (e : w'.heap = w.heap) (o : w'.os = w.os) (p : w'.output = w.output) (t : w'.tape = w.tape) : Ext μ h nx w μ h nx w' :=
  ⟨fun _ _ e => e, Nat.le_refl _, fun _ _ e => e, fun _ _ _ => rfl, fun _ _ e _ => e, by rw [e]; exact Nat.le_refl _, fun _ _ _ => by rw [e], fun _ _ e => e, o, p, t⟩

theorem G.drew {μ h nx} {w w' : World} (e : w'.heap = w.heap) (g : G μ h nx w) : G μ h nx w' :=
  ⟨fun i b B N hb hm => by rw [e]; exact g.blk i b B N hb hm, g.inj, g.fresh, fun i B N hm => by rw [e]; exact g.low i B N hm⟩

end Go.AM
