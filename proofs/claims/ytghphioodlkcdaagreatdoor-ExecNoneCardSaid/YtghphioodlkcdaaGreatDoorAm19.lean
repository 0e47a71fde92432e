/- THE ABSTRACT MACHINE, part 19: frames, modes, endings: in the abstract and in the model. -/
import Derived.Test.YtghphioodlkcdaaGreatDoorAm18
namespace Go.AM
open Go

def settleA : AMode → AMode
  | .pan ((_, true) :: _) => .ret
  | m => m

def raisedA (u : AMode) (ch : List (V × Bool)) : AMode := match u with
  | .pan old => .pan (ch ++ old)
  | .ret => .pan ch

/-- A chain of panics. -/
inductive CR (μ : Mu) : List (V × Bool) → List PanicEntry → Prop where
  | nil : CR μ [] []
  | cons {v : V} {v' : Value} {b : Bool} {l : List (V × Bool)} {l' : List PanicEntry} (h : VR μ v v') (t : CR μ l l') : CR μ ((v, b) :: l) (⟨v', b, false⟩ :: l')

inductive MR (μ : Mu) : AMode → FrameMode → Prop where
  | ret : MR μ .ret .returning
  | pan {ch : List (V × Bool)} {ch' : List PanicEntry} (h : CR μ ch ch') : MR μ (.pan ch) (.panicking ch')

/-- Whose mode a deferred call may turn. -/
inductive UR (μ : Mu) : Option AMode → Option FrameMode → Prop where
  | none : UR μ none none
  | some {m : AMode} {u : FrameMode} (h : MR μ m u) : UR μ (some m) (some u)

inductive DR (μ : Mu) : FuncId × List V → Deferred → Prop where
  | mk {f : FuncId} {args : List V} (cap' as' : List Value) (h : VL μ args (as' ++ cap')) : DR μ (f, args) ⟨.fn (.func f) ⟨cap'⟩, ⟨as'⟩⟩

inductive DL (μ : Mu) : List (FuncId × List V) → List Deferred → Prop where
  | nil : DL μ [] []
  | cons {d : FuncId × List V} {d' : Deferred} {l : List (FuncId × List V)} {l' : List Deferred} (h : DR μ d d') (t : DL μ l l') : DL μ (d :: l) (d' :: l')

inductive ER (μ : Mu) : AEx → Exit → Prop where
  | normal : ER μ .normal .normal
  | exit (i : Nat) : ER μ (.exit i) (.exit i)
  | ret : ER μ .ret .ret
  | pan {ch : List (V × Bool)} {ch' : List PanicEntry} (h : CR μ ch ch') : ER μ (.pan ch) (.panic ch')

inductive NR (μ : Mu) : AEnd → Ending → Prop where
  | ret {v : V} {v' : Value} (h : VR μ v v') : NR μ (.ret v) (.returned v')
  | pan {ch : List (V × Bool)} {ch' : List PanicEntry} (h : CR μ ch ch') : NR μ (.pan ch) (.panicked ch')

section
variable {μ μ' : Mu} (hm : ∀ i x, μ i = Option.some x → μ' i = Option.some x)
include hm
theorem CR.mono {l : List (V × Bool)} {l' : List PanicEntry} (h : CR μ l l') : CR μ' l l' := by
  induction h with
  | nil => exact .nil
  | cons h _ ih => exact .cons (h.mono hm) ih
theorem MR.mono {m : AMode} {u : FrameMode} (h : MR μ m u) : MR μ' m u := by
  cases h with
  | ret => exact .ret
  | pan h => exact .pan (h.mono hm)
theorem UR.mono {m : Option AMode} {u : Option FrameMode} (h : UR μ m u) : UR μ' m u := by
  cases h with
  | none => exact .none
  | some h => exact .some (h.mono hm)
theorem DL.mono {l : List (FuncId × List V)} {l' : List Deferred} (h : DL μ l l') : DL μ' l l' := by
  induction h with
  | nil => exact .nil
  | cons h _ ih => cases h with | mk c a h => exact .cons (.mk c a (h.mono hm)) ih
theorem ER.mono {e : AEx} {e' : Exit} (h : ER μ e e') : ER μ' e e' := by
  cases h with
  | normal => exact .normal
  | exit i => exact .exit i
  | ret => exact .ret
  | pan h => exact .pan (h.mono hm)
theorem NR.mono {e : AEnd} {e' : Ending} (h : NR μ e e') : NR μ' e e' := by
  cases h with
  | ret h => exact .ret (h.mono hm)
  | pan h => exact .pan (h.mono hm)
theorem TR.mono {tm : T V} {a : Array Value} (h : TR μ tm a) : TR μ' tm a := fun t => (h t).mono hm
end

theorem CR.append {μ : Mu} {l m : List (V × Bool)} {l' m' : List PanicEntry} (h : CR μ l l') (h2 : CR μ m m') : CR μ (l ++ m) (l' ++ m') := by
  induction h with
  | nil => exact h2
  | cons h _ ih => exact .cons h ih

theorem settle_rel {μ : Mu} {m : AMode} {u : FrameMode} (h : MR μ m u) : MR μ (settleA m) (settle u) := by
  have drop : ∀ {l : List (V × Bool)} {l' : List PanicEntry}, CR μ l l' → l'.dropWhile (!·.goexit) = [] := by
    intro l l' h
    induction h with
    | nil => rfl
    | cons h t ih => simpa [List.dropWhile] using ih
  cases h with
  | ret => exact .ret
  | pan h => cases h with
    | nil => exact .pan .nil
    | @cons v v' b l l' hv t => cases b with
      | true =>
        have : settle (.panicking (⟨v', true, false⟩ :: l')) = .returning := by simp only [settle, drop t]
        rw [this]; exact .ret
      | false => exact .pan (.cons hv t)

theorem raised_rel {μ : Mu} {m : AMode} {u : FrameMode} {ch : List (V × Bool)} {ch' : List PanicEntry} (h : MR μ m u) (hc : CR μ ch ch') : MR μ (raisedA m ch) (raised u ch') := by
  cases h with
  | ret => exact .pan hc
  | pan h => exact .pan (hc.append h)

/-- What a frame holds. -/
structure SR (μ : Mu) (st : St) (a : Act) (u : Option FrameMode) (w : World) : Prop where
  tm : TR μ st.tm a.tmps
  nt : a.tmps.size = st.nt
  dfs : DL μ st.dfs a.defers
  up : UR μ st.up u
  g : G μ st.hp st.nx w

/-- The frames behind. -/
def csOf (c0 : Frame) (cs0 : List Frame) (u : Option FrameMode) : List Frame := match u with
  | none => cs0
  | some u => { c0 with mode := u } :: cs0

def kindOf (u : Option FrameMode) : CallKind := match u with
  | none => .normal
  | some _ => .deferred

theorem kindOf_eq {u u' : Option FrameMode} (h : u'.isSome = u.isSome) : kindOf u' = kindOf u := by
  cases u <;> cases u' <;> first | rfl | cases h

section
variable {μ : Mu} {st : St} {a : Act} {u : Option FrameMode} {w : World}

theorem putT_some {R : Type} {tm : T V} {nt : Nat} {d : Option Tmp} {v : V} {k : T V → Option R} {r : R} (e : putT tm nt d v k = some r) :
    ∃ tm', k tm' = some r ∧ ∀ {μ : Mu} {a : Act} {v' : Value}, TR μ tm a.tmps → a.tmps.size = nt → VR μ v v' → TR μ tm' (a.put d v').tmps ∧ (a.put d v').tmps.size = nt ∧ (a.put d v').defers = a.defers := by
  cases d with
  | none => exact ⟨tm, e, fun h1 h2 _ => ⟨h1, h2, rfl⟩⟩
  | some d =>
    have e : ifB (Nat.ble (Nat.succ d) nt) (tm.putK d (some v) k) (k tm) = some r := e
    rw [ifB_eq] at e
    split at e
    · rename_i hd
      have hd : d < nt := ble_true.1 hd
      rw [putK_eq] at e
      refine ⟨_, e, fun {μ a v'} h1 h2 h3 => ⟨fun t => ?_, by simpa [Act.put] using h2, rfl⟩⟩
      have hlt : d < a.tmps.size := by rw [h2]; exact hd
      rw [rd_put]
      show VR _ _ ((a.tmps.setIfInBounds d v').getD t undef)
      by_cases ht : t = d
      · subst ht
        rw [if_pos rfl, Array.getD_eq_getD_getElem?, Array.getElem?_setIfInBounds_self_of_lt hlt]
        exact h3
      · rw [if_neg ht, Array.getD_eq_getD_getElem?, Array.getElem?_setIfInBounds_ne (fun h => ht h.symm), ← Array.getD_eq_getD_getElem?]
        exact h1 t
    · rename_i hd
      have hd : ¬ d < nt := fun h => hd (ble_true.2 h)
      refine ⟨_, e, fun {μ a v'} h1 h2 _ => ?_⟩
      have hs : a.tmps.setIfInBounds d v' = a.tmps := by
        apply Array.ext
        · simp
        · intro i hi1 hi2
          rw [Array.getElem_setIfInBounds_ne]
          intro h'
          subst h'
          exact hd (by rw [← h2]; exact hi2)
      have : a.put (some d) v' = a := by
        show ({ a with tmps := a.tmps.setIfInBounds d v' } : Act) = a
        rw [hs]
      rw [this]
      exact ⟨h1, h2, rfl⟩

/-- Guards. -/
theorem guard_yes {ops : List Oper} {tm : T V} {a : Act} (ht : TR μ tm a.tmps) {o : Oper} (e : guardOk ops tm o.guard = true) : Region.wanted o (yielded ⟨ops⟩ a.tmps) = true := by
  obtain ⟨dst, op, ty, pos, after, gd⟩ := o
  cases gd with
  | none => rfl
  | some p =>
    obtain ⟨j, want⟩ := p
    have e : guardB ops tm j want = true := e
    unfold guardB at e
    rw [nthL_eq] at e
    split at e
    · rename_i o' ho
      split at e
      · rename_i d hd
        have hr := ht d
        generalize rd tm d = v at *
        cases v <;> first | (cases e; done) | skip
        rename_i b
        have e : ifB b want (Bool.not want) = true := e
        have hb : b = want := by revert e; cases b <;> cases want <;> intro e <;> first | rfl | cases e
        cases hc : a.tmps[d]? with
        | none =>
          rw [Array.getD_eq_getD_getElem?, hc] at hr
          exact nomatch hr
        | some v' =>
          rw [Array.getD_eq_getD_getElem?, hc] at hr
          cases hr
          simp [Region.wanted, yielded, ho, hd, hc, hb]
      · cases e
    · cases e

theorem guard_no {ops : List Oper} {tm : T V} {a : Act} (ht : TR μ tm a.tmps) {o : Oper} (e : guardOk ops tm o.guard = false) (k : guardKn ops tm o.guard = true) : Region.wanted o (yielded ⟨ops⟩ a.tmps) = false := by
  obtain ⟨dst, op, ty, pos, after, gd⟩ := o
  cases gd with
  | none => cases e
  | some p =>
    obtain ⟨j, want⟩ := p
    have e : guardB ops tm j want = false := e
    have k : (match nthL ops j with | some o => (match o.dst with | some d => isKnown (rd tm d) | none => true) | none => true) = true := k
    unfold guardB at e
    rw [nthL_eq] at e k
    split at e
    · rename_i o' ho
      rw [ho] at k
      split at e
      · rename_i d hd
        simp only [hd] at k
        have hr := ht d
        cases hc : a.tmps[d]? with
        | none => simp [Region.wanted, yielded, ho, hd, hc]
        | some v' =>
          rw [Array.getD_eq_getD_getElem?, hc] at hr
          have hr : VR μ (rd tm d) v' := hr
          generalize rd tm d = v at *
          cases hr <;> first
            | (cases k; done)
            | (simp [Region.wanted, yielded, ho, hd, hc]; done)
            | (rename_i b
               have e : ifB b want (Bool.not want) = false := e
               have hb : ¬ b = want := by revert e; cases b <;> cases want <;> intro e h <;> first | exact absurd e (by decide) | exact absurd h (by decide)
               simp [Region.wanted, yielded, ho, hd, hc, hb])
      · rename_i hd
        simp [Region.wanted, yielded, ho, hd]
    · rename_i ho
      simp [Region.wanted, yielded, ho]

end
end Go.AM
