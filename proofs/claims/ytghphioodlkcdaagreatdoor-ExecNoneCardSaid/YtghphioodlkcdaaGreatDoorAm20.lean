/- THE ABSTRACT MACHINE, part 20: operations, one behind the other. -/
import Derived.Test.YtghphioodlkcdaaGreatDoorAm19x
namespace Go.AM
open Go

section
variable {P : Program} {E : Env}

/-- A run comes to a place from which the rest goes on as the abstract run does. -/
def Out (P : Program) (k : KO R0) (r : R0) (μ : Mu) (st : St) (u : Option FrameMode) (w : World) (m : Machine) (b : Frame) (kk : List Item) (c0 : Frame) (cs0 : List Frame) : Prop :=
  ∃ e st', k e st' = some r ∧ ∃ e' a' u' w' μ', Arrives P m b kk (csOf c0 cs0 u') e' a' w' ∧ ER μ' e e' ∧ SR μ' st' a' u' w' ∧ u'.isSome = u.isSome ∧ Ext μ st.hp st.nx w μ' st'.hp st'.nx w'

theorem Out.of_steps {k : KO R0} {r : R0} {μ μ1 : Mu} {st st1 : St} {u u1 : Option FrameMode} {w w1 : World} {m m1 : Machine} {b : Frame} {kk : List Item} {c0 : Frame} {cs0 : List Frame}
    (hs : Steps P m m1) (hx : Ext μ st.hp st.nx w μ1 st1.hp st1.nx w1) (hu : u1.isSome = u.isSome) (h : Out P k r μ1 st1 u1 w1 m1 b kk c0 cs0) : Out P k r μ st u w m b kk c0 cs0 := by
  obtain ⟨e, st', h1, e', a', u', w', μ', h2, h3, h4, h5, h6⟩ := h
  exact ⟨e, st', h1, e', a', u', w', μ', .of_steps hs h2, h3, h4, h5.trans hu, hx.trans h6⟩

/-- Code runs as the abstract machine says. -/
def CodeOK (P : Program) (F : Rec R0) : Prop := ∀ (c : Code) (st : St) (k : KO R0) (r : R0), F.code c st k = some r → ∀ (μ : Mu) (a : Act) (u : Option FrameMode) (w : World) (b c0 : Frame) (cs0 : List Frame) (it : Item) (kk : List Item),
  SR μ st a u w → b.kind = kindOf u → (it = .code c ∨ ∃ x, c = .loop x ∧ it = .inLoop x) → Out P k r μ st u w (lone (b.at a (it :: kk)) (csOf c0 cs0 u) w) b kk c0 cs0

/-- A function is entered where it is called. -/
def Enters (P : Program) (f : FuncId) : Prop := ∀ args w, (callFunc f args).run P w = .ok (.enter f args) w

/-- Calls run as the abstract machine says. -/
def CallOK (P : Program) (F : Rec R0) : Prop := ∀ (f : FuncId) (args : List V) (up : Option AMode) (h : Heap) (nx : Nat) (k : KC R0) (r : R0), F.call f args up h nx k = some r →
  Enters P f ∧ ∀ (μ : Mu) (args' : List Value) (u : Option FrameMode) (w : World) (c0 : Frame) (cs0 : List Frame), VL μ args args' → UR μ up u → G μ h nx w →
    ∃ e up' h' nx', k e up' h' nx' = some r ∧ ∃ en u' w' μ' fr, Steps P (lone (Frame.enter P f ⟨args'⟩ (kindOf u)) (csOf c0 cs0 u) w) (lone fr (csOf c0 cs0 u') w') ∧ fr.fn = f ∧ fr.kind = kindOf u ∧ fr.going P w' en ∧
      NR μ' e en ∧ UR μ' up' u' ∧ u'.isSome = u.isSome ∧ G μ' h' nx' w' ∧ Ext μ h nx w μ' h' nx' w'

/-- Summed up functions do as their summaries say. -/
def SumOK (E : Env) (P : Program) : Prop := ∀ f s, E.sum.get f = some s → ∀ args h v, s args h = some v → ∀ (μ : Mu) (nx : Nat) (w : World) (args' : List Value), VL μ args args' → G μ h nx w →
  (∃ v', (callFunc f ⟨args'⟩).run P w = .ok (.value v') w ∧ VR μ v v') ∨
  (Enters P f ∧ Calls P f ⟨args'⟩ w fun en w' => ∃ v' μ', en = .returned v' ∧ VR μ' v v' ∧ G μ' h nx w' ∧ Ext μ h nx w μ' h nx w')

variable {F : Rec R0}

theorem callS_sim (hC : CallOK P F) (hS : SumOK E P) {f : FuncId} {args : List V} {h : Heap} {nx : Nat} {k : AEnd → Heap → Nat → Option R0} {r : R0} (e : callS E F f args h nx k = some r)
    {μ : Mu} {args' : List Value} {w : World} (cs : List Frame) (ha : VL μ args args') (g : G μ h nx w) :
    ∃ en h' nx', k en h' nx' = some r ∧ ∃ en' w' μ', NR μ' en en' ∧ G μ' h' nx' w' ∧ Ext μ h nx w μ' h' nx' w' ∧
      ((∃ v', en' = .returned v' ∧ (callFunc f ⟨args'⟩).run P w = .ok (.value v') w') ∨
       ((callFunc f ⟨args'⟩).run P w = .ok (.enter f ⟨args'⟩) w ∧ ∃ fr, Steps P (lone (Frame.enter P f ⟨args'⟩ .normal) cs w) (lone fr cs w') ∧ fr.leaving P w' en')) := by
  unfold callS at e
  split at e
  · rename_i s hs
    split at e
    · rename_i v hv
      rw [fH_eq] at e
      refine ⟨_, _, _, e, ?_⟩
      rcases hS f s hs args h v hv μ nx w args' ha g with ⟨v', h1, h2⟩ | ⟨h1, h2⟩
      · exact ⟨.returned v', w, μ, .ret h2, g, Ext.refl _ _ _ _, .inl ⟨v', rfl, h1⟩⟩
      · obtain ⟨en, w', fr, ⟨v', μ', rfl, q1, q2, q3⟩, q4, _, q5⟩ := h2 cs
        exact ⟨.returned v', w', μ', .ret q1, q2, q3, .inr ⟨h1 _ _, fr, q4, q5⟩⟩
    · cases e
  · obtain ⟨h1, h2⟩ := hC f args none h nx _ r e
    obtain ⟨e', up', h', nx', q1, en, u', w', μ', fr, q2, q3, q4, q5, q6, q7, q8, q9, q10⟩ := h2 μ args' none w default cs ha .none g
    cases u' with
    | some u' => cases q8
    | none =>
      refine ⟨_, _, _, q1, en, w', μ', q6, q9, q10, .inr ⟨h1 _ _, fr, q2, ?_⟩⟩
      cases q6 with
      | ret hv =>
        obtain ⟨a, b, c⟩ := q5
        exact ⟨a, b, q4, c⟩
      | pan hc => exact q5

variable (K : Known E P) (hC : CallOK P F) (hS : SumOK E P)
include K hC hS

theorem opsF_sim (ops : List Oper) : ∀ (l : List Oper) (i : Nat), ops.drop i = l → ∀ (st : St) (k : KO R0) (r : R0), opsF E F ops l st k = some r →
    ∀ (μ : Mu) (a : Act) (u : Option FrameMode) (w : World) (b c0 : Frame) (cs0 : List Frame) (kk : List Item), SR μ st a u w → b.kind = kindOf u →
      Out P k r μ st u w (lone (b.at a (.inRegion ⟨ops⟩ (List.range' i l.length) :: kk)) (csOf c0 cs0 u) w) b kk c0 cs0 := by
  intro l
  induction l with
  | nil =>
    intro i _ st k r e μ a u w b c0 cs0 kk hs hb
    exact ⟨.normal, st, e, .normal, a, u, w, μ, .one step_region_end, .normal, hs, rfl, Ext.refl _ _ _ _⟩
  | cons o l ih =>
    intro i hi st k r e μ a u w b c0 cs0 kk hs hb
    have hdrop : ops.drop (i + 1) = l := by
      have : ops.drop (i + 1) = (ops.drop i).drop 1 := by rw [List.drop_drop]
      rw [this, hi]; rfl
    have ho : (⟨ops⟩ : Array Oper)[i]? = some o := by
      have : (ops.drop i)[0]? = some o := by rw [hi]; rfl
      simpa using this
    have hrange : List.range' i (o :: l).length = i :: List.range' (i + 1) l.length := by rw [List.length_cons, List.range'_succ]
    rw [hrange]
    have ih' := fun st k r e μ a u w => ih (i + 1) hdrop st k r e μ a u w b c0 cs0 kk
    have e : ifB (guardOk ops st.tm o.guard)
        (opR E o.op st.tm st.hp st.nx (fun v => putT st.tm st.nt o.dst v (fun tm => opsF E F ops l ⟨tm, st.nt, st.dfs, st.up, st.hp, st.nx⟩ k)) (opK E F o.dst st (fun st => opsF E F ops l st k) k))
        (ifB (guardKn ops st.tm o.guard) (putT st.tm st.nt o.dst undefV (fun tm => opsF E F ops l ⟨tm, st.nt, st.dfs, st.up, st.hp, st.nx⟩ k)) none) = some r := e
    cases hg : guardOk ops st.tm o.guard with
    | false =>
      rw [hg] at e
      obtain ⟨hkn, e⟩ := ifB_none e
      have hwant := guard_no (o := o) hs.tm hg hkn
      obtain ⟨tm', e1, hput⟩ := putT_some e
      obtain ⟨p1, p2, p3⟩ := hput hs.tm hs.nt VR.undef
      have hstep := step_op_skip (P := P) (b := b) (a := a) (k := kk) (cs := csOf c0 cs0 u) (w := w) (ops := ⟨ops⟩) (i := i) (rest := List.range' (i + 1) l.length) (by rw [ho]; simpa using hwant)
      rw [ho] at hstep
      exact .of_steps (.one hstep) (Ext.refl _ _ _ _) rfl (ih' _ k r e1 μ (a.put o.dst undef) u w ⟨p1, p2, by rw [p3]; exact hs.dfs, hs.up, hs.g⟩ hb)
    | true =>
      rw [hg] at e
      have hwant := guard_yes (o := o) hs.tm hg
      have hgo := stepG_op (P := P) (b := b) (a := a) (k := kk) (cs := csOf c0 cs0 u) (w := w) (rest := List.range' (i + 1) l.length) ho hwant
      have hfin : ∀ v, (b.at a (.inRegion ⟨ops⟩ (i :: List.range' (i + 1) l.length) :: kk)).finish v = b.at (a.put o.dst v) (.inRegion ⟨ops⟩ (List.range' (i + 1) l.length) :: kk) := by
        intro v; rw [Frame.finish_at, ho]; rfl
      have value : ∀ {v' : Value} {w' : World}, (execOp a.eval o).run P w = .ok (.value v') w' → Steps P (lone (b.at a (.inRegion ⟨ops⟩ (i :: List.range' (i + 1) l.length) :: kk)) (csOf c0 cs0 u) w) (lone (b.at (a.put o.dst v') (.inRegion ⟨ops⟩ (List.range' (i + 1) l.length) :: kk)) (csOf c0 cs0 u) w') := by
        intro v' w' hr
        refine .one (step_lone_go ?_)
        rw [hgo, ← hfin]; simp [stepG.apply, hr]
      rcases opR_sim (P := P) (w := w) K hs.g hs.tm e with ⟨v, e1, v', hr, hv⟩ | ⟨res, e1, hres⟩
      · obtain ⟨tm', e2, hput⟩ := putT_some e1
        obtain ⟨p1, p2, p3⟩ := hput hs.tm hs.nt hv
        exact .of_steps (value hr) (Ext.refl _ _ _ _) rfl (ih' _ k r e2 μ _ u w ⟨p1, p2, by rw [p3]; exact hs.dfs, hs.up, hs.g⟩ hb)
      · cases res with
        | val v f =>
          have e1 : fH v (fun v => effK f st.hp st.nx (fun h nx => putT st.tm st.nt o.dst v (fun tm => opsF E F ops l ⟨tm, st.nt, st.dfs, st.up, h, nx⟩ k))) = some r := e1
          rw [fH_eq] at e1
          obtain ⟨h', nx', e2, hE⟩ := effK_some e1
          obtain ⟨tm', e3, hput⟩ := putT_some e2
          obtain ⟨nxt, w', μ', hr, hn, hg', hx⟩ := hres h' nx' hE
          cases nxt with
          | value v' =>
            obtain ⟨p1, p2, p3⟩ := hput (TR.mono hx.mu hs.tm) hs.nt hn
            exact .of_steps (st1 := ⟨tm', st.nt, st.dfs, st.up, h', nx'⟩) (value hr) hx rfl (ih' _ k r e3 μ' _ u w' ⟨p1, p2, by rw [p3]; exact hs.dfs.mono hx.mu, hs.up.mono hx.mu, hg'⟩ hb)
          | skip =>
            have hn : v = undefV := hn
            subst hn
            obtain ⟨p1, p2, p3⟩ := hput (TR.mono hx.mu hs.tm) hs.nt VR.undef
            refine .of_steps (st1 := ⟨tm', st.nt, st.dfs, st.up, h', nx'⟩) (.one (step_lone_go ?_)) hx rfl (ih' _ k r e3 μ' (a.put o.dst undef) u w' ⟨p1, p2, by rw [p3]; exact hs.dfs.mono hx.mu, hs.up.mono hx.mu, hg'⟩ hb)
            rw [hgo, ← hfin]; simp [stepG.apply, hr]
          | _ => exact hn.elim
        | pan v =>
          have e1 : k (.pan [(v, false)]) st = some r := e1
          obtain ⟨v', hr, hv⟩ := hres
          refine ⟨_, st, e1, .panic [{ v := v', recovered := false }], a, u, w, μ, ⟨.inRegion ⟨ops⟩ (i :: List.range' (i + 1) l.length) :: kk, .one (step_lone_go ?_)⟩, .pan (.cons hv .nil), hs, rfl, Ext.refl _ _ _ _⟩
          rw [hgo, ← Frame.raise_at]; simp [stepG.apply, hr]
        | call f args =>
          have e1 : callS E F f args st.hp st.nx (retK o.dst st (fun st => opsF E F ops l st k) k) = some r := e1
          obtain ⟨args', hr, hva⟩ := hres
          obtain ⟨en, h', nx', e2, en', w', μ', hN, hg', hx, hcase⟩ := callS_sim hC hS e1 (b.at a (.inRegion ⟨ops⟩ (i :: List.range' (i + 1) l.length) :: kk) :: csOf c0 cs0 u) hva hs.g
          rcases hcase with ⟨v', rfl, hrun⟩ | ⟨hrun, fr, hsteps, hleave⟩
          · cases hN with | @ret v _ hv =>
            have e2 : putT st.tm st.nt o.dst v (fun tm => opsF E F ops l ⟨tm, st.nt, st.dfs, st.up, h', nx'⟩ k) = some r := e2
            obtain ⟨tm', e3, hput⟩ := putT_some e2
            obtain ⟨p1, p2, p3⟩ := hput (TR.mono hx.mu hs.tm) hs.nt hv
            exact .of_steps (st1 := ⟨tm', st.nt, st.dfs, st.up, h', nx'⟩) (value (hr.trans hrun)) hx rfl (ih' _ k r e3 μ' _ u w' ⟨p1, p2, by rw [p3]; exact hs.dfs.mono hx.mu, hs.up.mono hx.mu, hg'⟩ hb)
          · have henter : step P (lone (b.at a (.inRegion ⟨ops⟩ (i :: List.range' (i + 1) l.length) :: kk)) (csOf c0 cs0 u) w) =
                .next (lone (Frame.enter P f ⟨args'⟩ .normal) (b.at a (.inRegion ⟨ops⟩ (i :: List.range' (i + 1) l.length) :: kk) :: csOf c0 cs0 u) w) :=
              step_lone_go (by rw [hgo]; simp [stepG.apply, hr.trans hrun, Frame.at])
            cases hN with
            | @ret v v' hv =>
              have e2 : putT st.tm st.nt o.dst v (fun tm => opsF E F ops l ⟨tm, st.nt, st.dfs, st.up, h', nx'⟩ k) = some r := e2
              obtain ⟨tm', e3, hput⟩ := putT_some e2
              obtain ⟨p1, p2, p3⟩ := hput (TR.mono hx.mu hs.tm) hs.nt hv
              refine .of_steps (st1 := ⟨tm', st.nt, st.dfs, st.up, h', nx'⟩) (.head henter (hsteps.trans (.one ?_))) hx rfl (ih' _ k r e3 μ' (a.put o.dst v') u w' ⟨p1, p2, by rw [p3]; exact hs.dfs.mono hx.mu, hs.up.mono hx.mu, hg'⟩ hb)
              rw [← hfin]; exact step_leave_returned hleave
            | @pan ch ch' hc =>
              have e2 : k (.pan ch) ⟨st.tm, st.nt, st.dfs, st.up, h', nx'⟩ = some r := e2
              refine ⟨_, _, e2, .panic ch', a, u, w', μ', ⟨.inRegion ⟨ops⟩ (i :: List.range' (i + 1) l.length) :: kk, .head henter (hsteps.trans (.one ?_))⟩, .pan hc, ⟨TR.mono hx.mu hs.tm, hs.nt, hs.dfs.mono hx.mu, hs.up.mono hx.mu, hg'⟩, rfl, hx⟩
              rw [← Frame.raise_at]; exact step_leave_panicked hleave
        | dfr f args =>
          have e1 : fHs args (fun args => putT st.tm st.nt o.dst undefV (fun tm => opsF E F ops l ⟨tm, st.nt, (f, args) :: st.dfs, st.up, st.hp, st.nx⟩ k)) = some r := e1
          rw [fHs_eq] at e1
          obtain ⟨tm', e2, hput⟩ := putT_some e1
          obtain ⟨cap', as', hr, hva⟩ := hres
          obtain ⟨p1, p2, p3⟩ := hput (a := { a with defers := ⟨.fn (.func f) ⟨cap'⟩, ⟨as'⟩⟩ :: a.defers }) hs.tm hs.nt VR.undef
          refine .of_steps (st1 := ⟨tm', st.nt, (f, args) :: st.dfs, st.up, st.hp, st.nx⟩) (.one (step_lone_go ?_)) (Ext.refl _ _ _ _) rfl (ih' _ k r e2 μ (({ a with defers := ⟨.fn (.func f) ⟨cap'⟩, ⟨as'⟩⟩ :: a.defers } : Act).put o.dst undef) u w ⟨p1, p2, by rw [p3]; exact .cons (.mk _ _ hva) hs.dfs, hs.up, hs.g⟩ hb)
          have : ({ b.at a (.inRegion ⟨ops⟩ (i :: List.range' (i + 1) l.length) :: kk) with defers := ⟨.fn (.func f) ⟨cap'⟩, ⟨as'⟩⟩ :: a.defers } : Frame).finish undef =
              b.at (({ a with defers := ⟨.fn (.func f) ⟨cap'⟩, ⟨as'⟩⟩ :: a.defers } : Act).put o.dst undef) (.inRegion ⟨ops⟩ (List.range' (i + 1) l.length) :: kk) := by
            have := Frame.finish_at b { a with defers := ⟨.fn (.func f) ⟨cap'⟩, ⟨as'⟩⟩ :: a.defers } ⟨ops⟩ i (List.range' (i + 1) l.length) kk undef
            rw [ho] at this; exact this
          rw [hgo]; simp only [stepG.apply, Sem.runT_eq, hr, GStep.bare_after]
          exact congrArg (fun fr => GStep.go { frame := fr, callers := csOf c0 cs0 u, status := .running, dying := none } w) this
        | recov =>
          have hr : (execOp a.eval o).run P w = .ok .recover w := hres
          have e1 : recovK st.up (fun v up => putT st.tm st.nt o.dst v (fun tm => opsF E F ops l ⟨tm, st.nt, st.dfs, up, st.hp, st.nx⟩ k)) = some r := e1
          have hup := hs.up
          have fin : ∀ {v : V} {v' : Value} {m : AMode} {u' : FrameMode}, putT st.tm st.nt o.dst v (fun tm => opsF E F ops l ⟨tm, st.nt, st.dfs, some m, st.hp, st.nx⟩ k) = some r → VR μ v v' → MR μ m u' → u.isSome = true →
              step P (lone (b.at a (.inRegion ⟨ops⟩ (i :: List.range' (i + 1) l.length) :: kk)) (csOf c0 cs0 u) w) = .next (lone (b.at (a.put o.dst v') (.inRegion ⟨ops⟩ (List.range' (i + 1) l.length) :: kk)) (csOf c0 cs0 (some u')) w) →
              Out P k r μ st u w (lone (b.at a (.inRegion ⟨ops⟩ (i :: List.range' (i + 1) l.length) :: kk)) (csOf c0 cs0 u) w) b kk c0 cs0 := by
            intro v v' m u' e2 hv hm hsome hstep
            obtain ⟨tm', e3, hput⟩ := putT_some e2
            obtain ⟨p1, p2, p3⟩ := hput hs.tm hs.nt hv
            exact .of_steps (st1 := ⟨tm', st.nt, st.dfs, some m, st.hp, st.nx⟩) (u1 := some u') (.one hstep) (Ext.refl _ _ _ _) (by rw [hsome]; rfl) (ih' _ k r e3 μ _ (some u') w ⟨p1, p2, by rw [p3]; exact hs.dfs, .some hm, hs.g⟩ (by rw [hb]; exact kindOf_eq (u := some u') (u' := u) (by rw [hsome]; rfl)))
          generalize hupe : st.up = up at *
          cases hup with
          | none => cases e1
          | @some m u0 hm =>
            have hk : (b.at a (.inRegion ⟨ops⟩ (i :: List.range' (i + 1) l.length) :: kk)).kind = .deferred := hb
            have htr := tryRecover_deferred hk (csOf c0 cs0 (some u0))
            have other : recoverD (csOf c0 cs0 (some u0)) = none → recovK (some m) (fun v up => putT st.tm st.nt o.dst v (fun tm => opsF E F ops l ⟨tm, st.nt, st.dfs, up, st.hp, st.nx⟩ k)) = putT st.tm st.nt o.dst .n0 (fun tm => opsF E F ops l ⟨tm, st.nt, st.dfs, some m, st.hp, st.nx⟩ k) →
                Out P k r μ st (some u0) w (lone (b.at a (.inRegion ⟨ops⟩ (i :: List.range' (i + 1) l.length) :: kk)) (csOf c0 cs0 (some u0)) w) b kk c0 cs0 := by
              intro hno heq
              rw [heq] at e1
              refine fin e1 .n0 hm rfl (step_lone_go ?_)
              rw [hgo, ← hfin]
              simp only [Frame.at] at htr ⊢
              simp [stepG.apply, hr, htr, hno]
            cases hm with
            | ret => exact other rfl rfl
            | pan hc => cases hc with
              | nil => exact other rfl rfl
              | @cons v v' rec older older' hv ht => cases rec with
                | true => exact other rfl rfl
                | false =>
                  have e2 : putT st.tm st.nt o.dst v (fun tm => opsF E F ops l ⟨tm, st.nt, st.dfs, some (.pan ((v, true) :: older)), st.hp, st.nx⟩ k) = some r := e1
                  refine fin e2 hv (.pan (.cons (b := true) hv ht)) rfl (step_lone_go ?_)
                  have hrec : recoverD (csOf c0 cs0 (some (.panicking (⟨v', false, false⟩ :: older')))) = some (v', csOf c0 cs0 (some (.panicking (⟨v', true, false⟩ :: older')))) := rfl
                  rw [hgo, ← hfin]
                  simp only [Frame.at] at htr ⊢
                  simp [stepG.apply, hr, htr, hrec]
        | stuck => cases e1

end
end Go.AM
