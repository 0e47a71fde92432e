/- THE ABSTRACT MACHINE, part 7: each operation, in the abstract and in the model. -/
import Derived.Test.YtghphioodlkcdaaGreatDoorAm6
namespace Go.AM
open Go

/-! What a value was, if a way that asks for a kind came to something. -/
section
variable {R : Type} {r : R}
theorem asI_some {v : V} {g : IntKind → Int → Option R} (h : asI v none g = some r) : ∃ k n, v = .i k n ∧ g k n = some r := by
  cases v <;> first | cases h | exact ⟨_, _, rfl, h⟩
theorem asB_some {v : V} {g : Bool → Option R} (h : asB v none g = some r) : ∃ b, v = .b b ∧ g b = some r := by
  cases v <;> first | cases h | exact ⟨_, rfl, h⟩
theorem asS_some {v : V} {g : List UInt8 → Option R} (h : asS v none g = some r) : ∃ l, v = .s l ∧ g l = some r := by
  cases v <;> first | cases h | exact ⟨_, rfl, h⟩
theorem asP_some {v : V} {g : Nat → Nat → Option R} (h : asP v none g = some r) : ∃ b o, v = .p b o ∧ g b o = some r := by
  cases v <;> first | cases h | exact ⟨_, _, rfl, h⟩
theorem asAgg_some {v : V} {g : List V → Option R} (h : asAgg v none g = some r) : ∃ l, v = .agg l ∧ g l = some r := by
  cases v <;> first | cases h | exact ⟨_, rfl, h⟩
theorem asTup_some {v : V} {g : List V → Option R} (h : asTup v none g = some r) : ∃ l, v = .tup l ∧ g l = some r := by
  cases v <;> first | cases h | exact ⟨_, rfl, h⟩
end

def scalarC : TypeDesc → Option Nat | .bool => some 0 | .int _ => some 1 | .string => some 2 | _ => none

/-- A struct whose fields are cells of these kinds. -/
def Plain (P : Program) (t : TypeId) (cs : List Nat) : Prop :=
  ∃ fs : Array Field, P.underlying t = some (.struct fs) ∧ P.stoodInHeld t = false ∧ P.eqGuardType P.depth t = false ∧ fs.toList.length = cs.length ∧
    ∀ (i : Nat) (f : Field) (c : Nat), fs.toList[i]? = some f → cs[i]? = some c → f.name ≠ "_" ∧ f.offset = i ∧ ∃ d, P.underlying f.type = some d ∧ scalarC d = some c

/-- What is known of the program is so. -/
structure Known (E : Env) (P : Program) : Prop where
  ty : ∀ t i d, E.ty.get t = some (i, d) → P.info? t = some i ∧ P.underlying t = some d
  fn : ∀ f fn, E.fn.get f = some fn → P.funcs[f]? = some fn
  plain : ∀ t cs, E.plain.get t = some cs → Plain P t cs

def TR (μ : Mu) (tm : T V) (tmps : Array Value) : Prop := ∀ t, VR μ (rd tm t) (tmps.getD t undef)

section
variable {μ : Mu} {tm : T V} {a : Act}

theorem ev_rel (ht : TR μ tm a.tmps) (x : Operand) : VR μ (ev tm x) (a.eval x) := by
  cases x with
  | tmp t => exact ht t
  | const v => exact VR.ofVal v
  | global g => exact .junk _
  | func f => exact .f f .nil .nil

theorem evs_rel (ht : TR μ tm a.tmps) (l : List Operand) : VL μ (evs tm l) (l.map a.eval) := by
  induction l with
  | nil => exact .nil
  | cons x r ih => exact .cons (ev_rel ht x) ih
end

theorem addr_add (B o j : Nat) : (⟨B, o, none⟩ : Addr).add j = ⟨B, o + j, none⟩ := by
  unfold Addr.add
  split
  · rename_i h; subst h; rfl
  · rfl

theorem cell_at {w : World} {B : Nat} {arr : Array Value} {ty : TypeId} {f : Nat × Nat} (h : w.heap[B]? = some (.cells arr ty f)) (o : Nat) : w.cell? ⟨B, o, none⟩ = arr[o]? := by
  obtain ⟨lo, hi⟩ := f
  simp [World.cell?, h]

theorem frozen_at {w : World} {B : Nat} {arr : Array Value} {ty : TypeId} {lo hi : Nat} (h : w.heap[B]? = some (.cells arr ty (lo, hi))) (o : Nat) (hf : ¬ (lo ≤ o ∧ o < hi)) : w.frozen? ⟨B, o, none⟩ = false := by
  simp only [World.frozen?, h]
  rw [Bool.and_eq_false_iff]
  simp only [decide_eq_false_iff_not]
  omega

/-- A computation that yields a value that an abstract one stands for, and leaves the world alone. -/
def Val (P : Program) (μ : Mu) (w : World) (s : Sem Value) (v : V) : Prop := ∃ v', s.run P w = .ok v' w ∧ VR μ v v'

theorem run_und {P : Program} {t : TypeId} {d : TypeDesc} (h : P.underlying t = some d) (w : World) : (underlying t).run P w = .ok d w := by
  simp [underlying, h]
theorem run_info {P : Program} {t : TypeId} {i : TypeInfo} (h : P.info? t = some i) (w : World) : (typeInfo t).run P w = .ok i w := by
  simp [typeInfo, h]
theorem run_size {P : Program} {t : TypeId} {i : TypeInfo} (h : P.info? t = some i) (w : World) : (Go.sizeOf t).run P w = .ok i.size w := by
  simp [Go.sizeOf, run_info h]
theorem run_isAgg {P : Program} {t : TypeId} {d : TypeDesc} (h : P.underlying t = some d) (w : World) : (isAgg t).run P w = .ok (isAggD d) w := by
  cases d <;> simp [isAgg, run_und h] <;> rfl

section
variable {E : Env} {P : Program} (K : Known E P) {μ : Mu} {h : Heap} {nx : Nat} {w : World} (g : G μ h nx w)
include g

/-- Cells of a block of the world. -/
theorem cells_of {b B N : Nat} {c : T V} {m : Nat} {ro : Bool} (hb : h.get b = some (.cells c m ro)) (hm : μ b = some (B, N)) :
    ∃ arr ty lo hi, w.heap[B]? = some (.cells arr ty (lo, hi)) ∧ arr.size = N ∧ m ≤ N ∧ (lo = hi ∨ N ≤ lo) ∧ ∀ i, i < m → ∃ v', arr[i]? = some v' ∧ VR μ (rd c i) v' := g.blk b _ B N hb hm

theorem load_cells {b B N off n m : Nat} {c : T V} {ro : Bool} (hb : h.get b = some (.cells c m ro)) (hm : μ b = some (B, N)) (hn : off + n ≤ m) :
    ∃ l', (∀ w1 : World, w1.heap = w.heap → (loadCells ⟨B, off, none⟩ n).run P w1 = .ok l'.toArray w1) ∧ VL μ ((List.range n).map fun j => rd c (off + j)) l' ∧ l'.length = n := by
  obtain ⟨arr, ty, lo, hi, hw, hN, hmN, _, hc⟩ := cells_of g hb hm
  let l' := (List.range n).map fun j => arr.getD (off + j) undef
  have hl : l'.length = n := by simp [l']
  have hget : ∀ j, j < n → ∃ v', arr[off + j]? = some v' ∧ VR μ (rd c (off + j)) v' := fun j hj => hc (off + j) (by omega)
  refine ⟨l', ?_, ?_, hl⟩
  · intro w1 hw1
    have hw' : w1.heap[B]? = some (.cells arr ty (lo, hi)) := by rw [hw1]; exact hw
    have := run_loadCells_list (P := P) w1 ⟨B, off, none⟩ l' (fun j v hv => by
      have hj : j < n := by
        rcases Nat.lt_or_ge j n with h' | h'
        · exact h'
        · rw [List.getElem?_eq_none (by omega)] at hv; cases hv
      obtain ⟨v', hv', _⟩ := hget j hj
      rw [addr_add, cell_at hw', hv']
      simp only [l', List.getElem?_map, List.getElem?_range hj, Option.map_some, Option.some.injEq] at hv
      rw [← hv, Array.getD_eq_getD_getElem?, hv']; rfl)
    rwa [hl] at this
  · refine VL.of_get (by simp [hl]) fun j v v' e e' => ?_
    have hj : j < n := by
      rcases Nat.lt_or_ge j n with h' | h'
      · exact h'
      · rw [List.getElem?_eq_none (by simpa using h')] at e; cases e
    obtain ⟨u, hu, hr⟩ := hget j hj
    simp only [List.getElem?_map, List.getElem?_range hj, Option.map_some, Option.some.injEq, l'] at e e'
    rw [← e, ← e', Array.getD_eq_getD_getElem?, hu]; exact hr

include K
theorem loadK_sim {R : Type} {r : R} {t : TypeId} {a : V} {k : V → Option R} (e : loadK E t a h k = some r) : ∃ v, k v = some r ∧ ∀ a', VR μ a a' → Val P μ w (Instr.loadAt t a') v := by
  obtain ⟨b, off, rfl, e1⟩ := asP_some e
  clear e
  have e := e1
  clear e1
  cases hi : E.ty.get t with
  | none => rw [hi] at e; cases e
  | some i =>
    obtain ⟨i, d⟩ := i
    obtain ⟨hinf, hund⟩ := K.ty t i d hi
    simp only [hi] at e
    rw [ifB_eq] at e
    by_cases hd : isAggD d = true
    · rw [if_pos hd] at e
      unfold ldK at e
      split at e
      · rename_i c m ro hb
        obtain ⟨hle, e⟩ := ifB_none e
        have hle := ble_true.1 hle
        rw [rdK_eq] at e
        refine ⟨_, e, ?_⟩
        rintro _ (⟨⟩ | ⟨⟩ | ⟨⟩ | ⟨⟩ | ⟨_, hm⟩)
        obtain ⟨l', hl, hr, hn⟩ := load_cells (P := P) g hb hm hle
        refine ⟨.agg l'.toArray, ?_, .agg hr⟩
        simp [Instr.loadAt, Instr.sureAddr, loadVar, run_isAgg hund, hd, run_size hinf, hl w rfl]
      · cases e
    · rw [if_neg hd] at e
      unfold ld1 at e
      split at e
      · rename_i c m ro hb
        obtain ⟨hle, e⟩ := ifB_none e
        have hle := ble_true.1 hle
        rw [fH_eq] at e
        refine ⟨_, e, ?_⟩
        rintro _ (⟨⟩ | ⟨⟩ | ⟨⟩ | ⟨⟩ | ⟨_, hm⟩)
        obtain ⟨arr, ty, lo, hi', hw, hN, hmN, _, hc⟩ := cells_of g hb hm
        obtain ⟨v', hv', hr⟩ := hc off (by omega)
        refine ⟨v', ?_, hr⟩
        simp only [Bool.not_eq_true] at hd
        simp [Instr.loadAt, Instr.sureAddr, loadVar, run_isAgg hund, hd, cell_at hw, hv']
      · cases e

end

end Go.AM
