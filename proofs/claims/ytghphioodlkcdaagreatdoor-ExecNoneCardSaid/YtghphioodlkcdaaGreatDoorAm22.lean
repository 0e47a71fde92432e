/- THE ABSTRACT MACHINE, part 22: calls, and all of it. -/
import Derived.Test.YtghphioodlkcdaaGreatDoorAm21
namespace Go.AM
open Go

/-- No function of the environment bears the one name that the model reads. -/
def Named (E : Env) : Prop := ∀ f fn, E.fn.get f = some fn → (fn.name == "runtime.NumGoroutine") = false

section
variable {P : Program} {E : Env} {F : Rec R0}

theorem enters {f : FuncId} {fn : Func} {c : Code} (hf : P.funcs[f]? = some fn) (hb : fn.body = some c) (hn : (fn.name == "runtime.NumGoroutine") = false) : Enters P f := by
  intro args w
  have hn' : ¬ fn.name = "runtime.NumGoroutine" := by simpa using hn
  simp [callFunc, hf, hb, hn']

/-- A frame is left: its deferred calls, then its results. -/
theorem leaveF_sim (K : Known E P) (hC : CallOK P F) {fn : Func} {tm : T V} {up : Option AMode} {k : KC R0} {r : R0} (c0 : Frame) (cs0 : List Frame) : ∀ (ds : List (FuncId × List V)) (m : AMode) (hp : Heap) (nx : Nat), leaveF E F fn.results.toList tm up k ds m hp nx = some r →
    ∀ (μ : Mu) (fr : Frame) (u : Option FrameMode) (w : World), MR μ m fr.mode → DL μ ds fr.defers → TR μ tm fr.tmps → UR μ up u → G μ hp nx w → P.funcs[fr.fn]? = some fn →
    ∃ e up' h' nx', k e up' h' nx' = some r ∧ ∃ en u' w' μ' fr', Steps P (lone fr (csOf c0 cs0 u) w) (lone fr' (csOf c0 cs0 u') w') ∧ fr'.fn = fr.fn ∧ fr'.kind = fr.kind ∧ fr'.going P w' en ∧
      NR μ' e en ∧ UR μ' up' u' ∧ u'.isSome = u.isSome ∧ G μ' h' nx' w' ∧ Ext μ hp nx w μ' h' nx' w' := by
  intro ds
  induction ds with
  | nil =>
    intro m hp nx e μ fr u w hm hd ht hu g hf
    generalize hfd : fr.defers = fd at *
    cases hd
    generalize hfm : fr.mode = fm at *
    cases hm with
    | ret =>
      have e : resultsK E fn.results.toList tm hp (fun l => fH (oneV l) (fun v => k (.ret v) up hp nx)) = some r := e
      obtain ⟨v, e1, v', h1, h2⟩ := results_sim (P := P) (w := w) K g (a := ⟨fr.tmps, []⟩) ht e
      exact ⟨.ret v, up, hp, nx, e1, .returned v', u, w, μ, fr, Steps.refl _ _, rfl, rfl, ⟨hfm, hfd, fn, hf, h1⟩, .ret h2, hu, rfl, g, Ext.refl _ _ _ _⟩
    | @pan ch ch' hc =>
      have e : k (.pan ch) up hp nx = some r := e
      exact ⟨.pan ch, up, hp, nx, e, .panicked ch', u, w, μ, fr, Steps.refl _ _, rfl, rfl, ⟨hfm, hfd, fn, hf⟩, .pan hc, hu, rfl, g, Ext.refl _ _ _ _⟩
  | cons d ds ih =>
    intro m hp nx e μ fr u w hm hd ht hu g hf
    obtain ⟨f, args⟩ := d
    have e : F.call f args (some m) hp nx (fun e u h nx => match u with
        | none => none
        | some u => AEnd.rec (motive := fun _ => Option R0) (fun _ => leaveF E F fn.results.toList tm up k ds (settleA u) h nx) (fun ch => leaveF E F fn.results.toList tm up k ds (raisedA u ch) h nx) e) = some r := e
    generalize hfd : fr.defers = fd at *
    cases hd with | @cons _ d' _ ds' hdr hds =>
    cases hdr with | mk cap' as' hva =>
    obtain ⟨hen, hcall⟩ := hC f args (some m) hp nx _ r e
    have hrun : fr.mode ≠ .run := by
      intro h'
      rw [h'] at hm
      cases hm
    have hstep := step_defer (P := P) (fr := fr) (cs := csOf c0 cs0 u) (w := w) (d := ⟨.fn (.func f) ⟨cap'⟩, ⟨as'⟩⟩) (ds := ds') (fv := .func f) (cap := ⟨cap'⟩) (f := f) (args := ⟨as' ++ cap'⟩) hrun hfd rfl (by
      have : (⟨as'⟩ : Array Value) ++ ⟨cap'⟩ = ⟨as' ++ cap'⟩ := Array.ext' (by simp)
      simp only [invoke, this]
      exact hen _ _)
    obtain ⟨e1, up1, h1, nx1, q1, en, u1, w1, μ1, fr1, q2, q3, q4, q5, q6, q7, q8, q9, q10⟩ := hcall μ (as' ++ cap') (some fr.mode) w { fr with defers := ds' } (csOf c0 cs0 u) hva (.some hm) g
    cases q7 with
    | none => cases q1
    | @some m1 u1 hm1 =>
      have q2 : Steps P (lone (Frame.enter P f ⟨as' ++ cap'⟩ .deferred) ({ fr with defers := ds' } :: csOf c0 cs0 u) w) (lone fr1 ({ { fr with defers := ds' } with mode := u1 } :: csOf c0 cs0 u) w1) := q2
      cases q6 with
      | ret hv =>
        have h2 := step_going_returned (P := P) (c := { { fr with defers := ds' } with mode := u1 }) (cs := csOf c0 cs0 u) q4 q5
        obtain ⟨e2, up2, h3, nx2, r1, en2, u2, w2, μ2, fr2, r2, r3, r4, r5, r6, r7, r8, r9, r10⟩ := ih (settleA m1) h1 nx1 q1 μ1 { { fr with defers := ds' } with mode := settle u1 } u w1 (settle_rel hm1) (hds.mono q10.mu) (TR.mono q10.mu ht) (hu.mono q10.mu) q9 hf
        exact ⟨e2, up2, h3, nx2, r1, en2, u2, w2, μ2, fr2, .head hstep (q2.trans (.head h2 r2)), r3, r4, r5, r6, r7, r8, r9, q10.trans r10⟩
      | @pan ch ch' hc =>
        have h2 := step_going_panicked (P := P) (c := { { fr with defers := ds' } with mode := u1 }) (cs := csOf c0 cs0 u) q5
        obtain ⟨e2, up2, h3, nx2, r1, en2, u2, w2, μ2, fr2, r2, r3, r4, r5, r6, r7, r8, r9, r10⟩ := ih (raisedA m1 ch) h1 nx1 q1 μ1 { { fr with defers := ds' } with mode := raised u1 ch' } u w1 (raised_rel hm1 hc) (hds.mono q10.mu) (TR.mono q10.mu ht) (hu.mono q10.mu) q9 hf
        exact ⟨e2, up2, h3, nx2, r1, en2, u2, w2, μ2, fr2, .head hstep (q2.trans (.head h2 r2)), r3, r4, r5, r6, r7, r8, r9, q10.trans r10⟩

theorem args_rel {μ : Mu} {args : List V} {args' : List Value} (ha : VL μ args args') (n : Nat) : TR μ (putL .e args 0) ((⟨args'⟩ : Array Value) ++ Array.replicate n undef) := by
  intro t
  rw [rd_putL, Array.getD_eq_getD_getElem?]
  by_cases h : t < args.length
  · rw [if_pos (by omega), Nat.sub_zero, List.getElem?_eq_getElem h]
    obtain ⟨u, hu, hr⟩ := ha.get t _ (List.getElem?_eq_getElem h)
    rw [Array.getElem?_append_left (by show t < args'.length; rw [← ha.length]; exact h)]
    have : (⟨args'⟩ : Array Value)[t]? = some u := by simpa using hu
    rw [this]
    exact hr
  · rw [if_neg (by omega)]
    have h1 : rd (.e : T V) t = undefV := by unfold rd; rw [get_e]; rfl
    rw [h1, Array.getElem?_append_right (by show args'.length ≤ t; rw [← ha.length]; omega)]
    cases hc : (Array.replicate n undef)[t - (⟨args'⟩ : Array Value).size]? with
    | none => exact VR.undef
    | some v =>
      have : v = undef := by
        have := Array.getElem?_replicate (n := n) (v := undef) (i := t - (⟨args'⟩ : Array Value).size)
        rw [hc] at this
        split at this
        · injection this
        · cases this
      subst this
      exact VR.undef

theorem callF_sim (K : Known E P) (hN : Named E) (hC : CallOK P F) (hF : CodeOK P F) (H : Code → St → KO R0 → Option R0) : CallOK P ⟨H, callF E F⟩ := by
  intro f args up h nx k r e
  replace e : callF E F f args up h nx k = some r := e
  unfold callF at e
  split at e
  · cases e
  · rename_i fn hfn
    have hf := K.fn f fn hfn
    split at e
    · cases e
    · rename_i c hbody
      obtain ⟨hle, e⟩ := ifB_none e
      have hle := ble_true.1 hle
      rw [lenL_eq] at hle
      rw [putsK_eq] at e
      refine ⟨enters hf hbody (hN f fn hfn), ?_⟩
      intro μ args' u w c0 cs0 ha hu g
      have henter : Frame.enter P f ⟨args'⟩ (kindOf u) = ({ (default : Frame) with fn := f, kind := kindOf u } : Frame).at { tmps := ⟨args'⟩ ++ Array.replicate (fn.ntmps - args'.length) undef, defers := [] } [.code c] := by
        simp [Frame.enter, Frame.at, hf, hbody]
      have hs : SR μ ⟨putL .e args 0, fn.ntmps, [], up, h, nx⟩ { tmps := ⟨args'⟩ ++ Array.replicate (fn.ntmps - args'.length) undef, defers := [] } u w :=
        ⟨args_rel ha _, by
          rw [Array.size_append, Array.size_replicate]
          show args'.length + _ = fn.ntmps
          have := ha.length
          omega, .nil, hu, g⟩
      obtain ⟨e1, st1, h1, e1', a1, u1, w1, μ1, harr, her, hsr, hu1, hx⟩ := hF c _ _ r e μ _ u w { (default : Frame) with fn := f, kind := kindOf u } c0 cs0 (.code c) [] hs rfl (.inl rfl)
      rw [← henter] at harr
      have fin : ∀ (m : AMode) (fm : FrameMode) (todo : List Item), leaveF E F fn.results.toList st1.tm st1.up k st1.dfs m st1.hp st1.nx = some r → MR μ1 m fm →
          Steps P (lone (Frame.enter P f ⟨args'⟩ (kindOf u)) (csOf c0 cs0 u) w) (lone { ({ (default : Frame) with fn := f, kind := kindOf u } : Frame).at a1 todo with mode := fm } (csOf c0 cs0 u1) w1) →
          ∃ e up' h' nx', k e up' h' nx' = some r ∧ ∃ en u' w' μ' fr, Steps P (lone (Frame.enter P f ⟨args'⟩ (kindOf u)) (csOf c0 cs0 u) w) (lone fr (csOf c0 cs0 u') w') ∧ fr.fn = f ∧ fr.kind = kindOf u ∧ fr.going P w' en ∧
            NR μ' e en ∧ UR μ' up' u' ∧ u'.isSome = u.isSome ∧ G μ' h' nx' w' ∧ Ext μ h nx w μ' h' nx' w' := by
        intro m fm todo hl hm hst
        obtain ⟨e2, up2, h3, nx2, r1, en2, u2, w2, μ2, fr2, r2, r3, r4, r5, r6, r7, r8, r9, r10⟩ := leaveF_sim K hC c0 cs0 st1.dfs m st1.hp st1.nx hl μ1 { ({ (default : Frame) with fn := f, kind := kindOf u } : Frame).at a1 todo with mode := fm } u1 w1 hm hsr.dfs hsr.tm hsr.up hsr.g hf
        exact ⟨e2, up2, h3, nx2, r1, en2, u2, w2, μ2, fr2, hst.trans r2, r3, r4, r5, r6, r7, r8.trans hu1, r9, hx.trans r10⟩
      cases her with
      | normal => exact fin .ret .returning [] h1 .ret (Steps.trans harr (.one step_end))
      | exit i => cases h1
      | ret =>
        obtain ⟨todo, hst⟩ := harr
        exact fin .ret .returning todo h1 .ret hst
      | @pan ch ch' hc =>
        obtain ⟨todo, hst⟩ := harr
        exact fin (.pan ch) (.panicking ch') todo h1 (.pan hc) hst

/-- The whole machine, with any fuel. -/
theorem recF_sim (K : Known E P) (hN : Named E) (hS : SumOK E P) (hD : ∀ n, CallOK P (recF E n) → CodeOK P (recF E n) → DrawOK P E (recF E n)) : ∀ n, CodeOK P (recF E n) ∧ CallOK P (recF E n)
  | 0 => ⟨fun _ _ _ _ e => (by cases e), fun _ _ _ _ _ _ _ e => (by cases e)⟩
  | n + 1 => by
    obtain ⟨h1, h2⟩ := recF_sim K hN hS hD n
    exact ⟨codeF_sim K h2 hS (hD n h2 h1) h1 _, callF_sim K hN h2 h1 _⟩

end

/-- A call that the abstract machine runs to its end. -/
theorem runCall_sim {P : Program} {E : Env} (K : Known E P) (hN : Named E) (hS : SumOK E P) (hD : ∀ n, CallOK P (recF E n) → CodeOK P (recF E n) → DrawOK P E (recF E n))
    {n : Nat} {f : FuncId} {args : List V} {h : Heap} {nx : Nat} {en : AEnd} {h' : Heap} {nx' : Nat} (e : runCall E n f args h nx = some (en, h', nx')) {μ : Mu} {args' : List Value} {w : World} (ha : VL μ args args') (g : G μ h nx w) :
    Enters P f ∧ Calls P f ⟨args'⟩ w fun en' w' => ∃ μ', NR μ' en en' ∧ G μ' h' nx' w' ∧ Ext μ h nx w μ' h' nx' w' := by
  obtain ⟨h1, h2⟩ := (recF_sim K hN hS hD n).2 f args none h nx _ _ e
  refine ⟨h1, fun cs => ?_⟩
  obtain ⟨e1, up1, hh, nn, q1, en', u', w', μ', fr, q2, q3, q4, q5, q6, q7, q8, q9, q10⟩ := h2 μ args' none w default cs ha .none g
  injection q1 with q1
  injection q1 with a1 a2
  injection a2 with a2 a3
  subst a1 a2 a3
  cases u' with
  | some u' => cases q8
  | none =>
    refine ⟨en', w', fr, ⟨μ', q6, q9, q10⟩, ?_, q3, ?_⟩
    · cases q6 <;> exact q2
    · cases q6 with
      | ret hv =>
        obtain ⟨a, b, c⟩ := q5
        exact ⟨a, b, q4, c⟩
      | pan hc => exact q5

end Go.AM
