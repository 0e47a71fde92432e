/- THE ABSTRACT MACHINE, part 25: the trace of a region's run in the order of the text. -/
import Derived.Test.YtghphioodlkcdaaGreatDoorAm24
namespace Go.AM
open Go

noncomputable def putTv (tm : T V) (nt : Nat) (d : Option Tmp) (v : V) : T V := match d with
  | some d => ifB (Nat.ble (Nat.succ d) nt) (tm.put d (some v)) tm
  | none => tm

theorem putT_eq {R : Type} (tm : T V) (nt : Nat) (d : Option Tmp) (v : V) (k : T V → Option R) : putT tm nt d v k = k (putTv tm nt d v) := by
  cases d with
  | none => rfl
  | some d =>
    show ifB (Nat.ble (Nat.succ d) nt) (tm.putK d (some v) k) (k tm) = k (ifB (Nat.ble (Nat.succ d) nt) (tm.put d (some v)) tm)
    rw [putK_eq]
    cases Nat.ble (Nat.succ d) nt <;> rfl

structure Pt where
  tm : T V
  h : Heap
  nx : Nat

section
variable (E : Env) (F : Rec R0) (ops : List Oper) (nt : Nat)

/-- What an operation does between two places. -/
inductive StepA (ptr : Nat → V) (recs : List Rc) (i : Nat) (o : Oper) (p q : Pt) : Prop where
  | alloc (ha : isA o = true) (ht : q.tm = putTv p.tm nt o.dst (ptr i)) (hh : q.h = p.h) (hn : q.nx = p.nx)
  | skip (ha : isA o = false) (hg : guardOk ops p.tm o.guard = false) (hk : guardKn ops p.tm o.guard = true) (ht : q.tm = putTv p.tm nt o.dst undefV) (hh : q.h = p.h) (hn : q.nx = p.nx)
  | still (ha : isA o = false) (hg : guardOk ops p.tm o.guard = true) (v : V) (hc : clsP E o.op = true ∨ (clsP E o.op = false ∧ clsR o.op = true ∧ Rc.rd i o.op p.tm v ∈ recs)) (hv : stillV E o.op p.tm p.h p.nx = some v) (ht : q.tm = putTv p.tm nt o.dst v) (hh : q.h = p.h) (hn : q.nx = p.nx)
  | eff (ha : isA o = false) (hg : guardOk ops p.tm o.guard = true) (v : V) (hc : clsP E o.op = false) (hr : clsR o.op = false) (hv : effectV E F o.op p.tm p.h p.nx = some (v, q.h, q.nx)) (he : Rc.ef i p.h p.nx q.h q.nx ∈ recs) (ht : q.tm = putTv p.tm nt o.dst v)

/-- Pointers, handed out to the allocations. -/
def Hands (ptr : Nat → V) : List Oper → Nat → List V → Prop
  | [], _, _ => True
  | o :: l, i, ps => if isA o = true then (match ps with | p :: ps => ptr i = p ∧ Hands ptr l (i + 1) ps | [] => True) else Hands ptr l (i + 1) ps

theorem textF_trace {R : Type} (ptr : Nat → V) : ∀ (l : List Oper) (i : Nat) (ps : List V) (tm : T V) (h : Heap) (nx : Nat) (recs : List Rc) (k : T V → Heap → Nat → List Rc → Option R) (r : R), Hands ptr l i ps → textF E F ops nt l i ps tm h nx recs k = some r →
    ∃ (tr : Nat → Pt) (recs' : List Rc), tr i = ⟨tm, h, nx⟩ ∧ (∀ j o, l[j]? = some o → StepA E F ops nt ptr recs' (i + j) o (tr (i + j)) (tr (i + j + 1))) ∧ (∀ x ∈ recs, x ∈ recs') ∧ k (tr (i + l.length)).tm (tr (i + l.length)).h (tr (i + l.length)).nx recs' = some r := by
  intro l
  induction l with
  | nil =>
    intro i ps tm h nx recs k r _ e
    exact ⟨fun _ => ⟨tm, h, nx⟩, recs, rfl, fun j o ho => by simp at ho, fun x hx => hx, e⟩
  | cons o l ih =>
    intro i ps tm h nx recs k r hp e
    have next : ∀ (ps' : List V) (tm' : T V) (h' : Heap) (nx' : Nat) (recs1 : List Rc), Hands ptr l (i + 1) ps' → textF E F ops nt l (Nat.succ i) ps' tm' h' nx' recs1 k = some r → (∀ x ∈ recs, x ∈ recs1) →
        (∀ recs', (∀ x ∈ recs1, x ∈ recs') → StepA E F ops nt ptr recs' i o ⟨tm, h, nx⟩ ⟨tm', h', nx'⟩) →
        ∃ (tr : Nat → Pt) (recs' : List Rc), tr i = ⟨tm, h, nx⟩ ∧ (∀ j o', (o :: l)[j]? = some o' → StepA E F ops nt ptr recs' (i + j) o' (tr (i + j)) (tr (i + j + 1))) ∧ (∀ x ∈ recs, x ∈ recs') ∧ k (tr (i + (o :: l).length)).tm (tr (i + (o :: l).length)).h (tr (i + (o :: l).length)).nx recs' = some r := by
      intro ps' tm' h' nx' recs1 hp' e' hsub hstep
      obtain ⟨tr, recs', h1, h2, h3, h4⟩ := ih (i + 1) ps' tm' h' nx' recs1 k r hp' e'
      have hne : ∀ m, i < m → (fun m => if m = i then (⟨tm, h, nx⟩ : Pt) else tr m) m = tr m := fun m hm => if_neg (by omega)
      refine ⟨fun m => if m = i then ⟨tm, h, nx⟩ else tr m, recs', if_pos rfl, ?_, fun x hx => h3 x (hsub x hx), ?_⟩
      · intro j o' ho'
        cases j with
        | zero =>
          have ho' : o = o' := by simpa using ho'
          subst ho'
          rw [Nat.add_zero, hne (i + 1) (by omega), h1]
          show StepA E F ops nt ptr recs' i o (if i = i then _ else _) _
          rw [if_pos rfl]
          exact hstep recs' h3
        | succ j =>
          have := h2 j o' (by simpa using ho')
          rw [hne _ (by omega), hne _ (by omega)]
          have e1 : i + (j + 1) = i + 1 + j := by omega
          rw [e1]
          exact this
      · rw [hne _ (by simp)]
        have e1 : i + (o :: l).length = i + 1 + l.length := by simp; omega
        rw [e1]
        exact h4
    have e : ifB (isA o) (match (generalizing := false) ps with
        | p :: ps => putT tm nt o.dst p (fun tm => textF E F ops nt l (Nat.succ i) ps tm h nx recs k)
        | [] => none)
      (ifB (guardOk ops tm o.guard)
        (ifB (clsP E o.op) (match stillV E o.op tm h nx with | some v => putT tm nt o.dst v (fun tm => textF E F ops nt l (Nat.succ i) ps tm h nx recs k) | none => none)
          (ifB (clsR o.op) (match stillV E o.op tm h nx with | some v => putT tm nt o.dst v (fun tm' => textF E F ops nt l (Nat.succ i) ps tm' h nx (.rd i o.op tm v :: recs) k) | none => none)
            (match effectV E F o.op tm h nx with | some (v, h', nx') => putT tm nt o.dst v (fun tm' => textF E F ops nt l (Nat.succ i) ps tm' h' nx' (.ef i h nx h' nx' :: recs) k) | none => none)))
        (ifB (guardKn ops tm o.guard) (putT tm nt o.dst undefV (fun tm => textF E F ops nt l (Nat.succ i) ps tm h nx recs k)) none)) = some r := e
    cases ha : isA o with
    | true =>
      rw [ha] at e
      simp only [Hands, ha, if_true] at hp
      cases ps with
      | nil => cases e
      | cons p ps =>
        obtain ⟨hp1, hp2⟩ := hp
        have e : putT tm nt o.dst p (fun tm => textF E F ops nt l (Nat.succ i) ps tm h nx recs k) = some r := e
        rw [putT_eq] at e
        exact next ps _ h nx recs hp2 e (fun x hx => hx) (fun _ _ => .alloc ha (by rw [hp1]) rfl rfl)
    | false =>
      rw [ha] at e
      have hp : Hands ptr l (i + 1) ps := by simpa [Hands, ha] using hp
      cases hg : guardOk ops tm o.guard with
      | false =>
        rw [hg] at e
        obtain ⟨hk, e⟩ := ifB_none e
        rw [putT_eq] at e
        exact next ps _ h nx recs hp e (fun x hx => hx) (fun _ _ => .skip ha hg hk rfl rfl rfl)
      | true =>
        rw [hg] at e
        cases hcp : clsP E o.op with
        | true =>
          rw [hcp] at e
          have e : (match stillV E o.op tm h nx with | some v => putT tm nt o.dst v (fun tm => textF E F ops nt l (Nat.succ i) ps tm h nx recs k) | none => none) = some r := e
          split at e
          · rename_i v hv
            rw [putT_eq] at e
            exact next ps _ h nx recs hp e (fun x hx => hx) (fun _ _ => .still ha hg v (.inl hcp) hv rfl rfl rfl)
          · cases e
        | false =>
          rw [hcp] at e
          cases hcr : clsR o.op with
          | true =>
            rw [hcr] at e
            have e : (match stillV E o.op tm h nx with | some v => putT tm nt o.dst v (fun tm' => textF E F ops nt l (Nat.succ i) ps tm' h nx (.rd i o.op tm v :: recs) k) | none => none) = some r := e
            split at e
            · rename_i v hv
              rw [putT_eq] at e
              exact next ps _ h nx _ hp e (fun x hx => .tail _ hx) (fun _ hs => .still ha hg v (.inr ⟨hcp, hcr, hs _ (.head _)⟩) hv rfl rfl rfl)
            · cases e
          | false =>
            rw [hcr] at e
            have e : (match effectV E F o.op tm h nx with | some (v, h', nx') => putT tm nt o.dst v (fun tm' => textF E F ops nt l (Nat.succ i) ps tm' h' nx' (.ef i h nx h' nx' :: recs) k) | none => none) = some r := e
            split at e
            · rename_i v h' nx' hv
              rw [putT_eq] at e
              exact next ps _ h' nx' _ hp e (fun x hx => .tail _ hx) (fun _ hs => .eff ha hg v hcp hcr hv (hs _ (.head _)) rfl)
            · cases e
end
end Go.AM
