/- THE ABSTRACT MACHINE, part 21: code. -/
import Derived.Test.YtghphioodlkcdaaGreatDoorAm20
namespace Go.AM
open Go

section
variable {P : Program} {E : Env} {F : Rec R0}

/-- Regions whose order is drawn run as the abstract machine says. -/
def DrawOK (P : Program) (E : Env) (F : Rec R0) : Prop := ∀ (id : Nat) (ops : List Oper) (st : St) (k : KO R0) (r : R0), drawF E F ops st k = some r →
  ∀ (μ : Mu) (a : Act) (u : Option FrameMode) (w : World) (b c0 : Frame) (cs0 : List Frame) (kk : List Item), SR μ st a u w → b.kind = kindOf u →
    Out P k r μ st u w (lone (b.at a (.code (.region id ⟨ops⟩ true) :: kk)) (csOf c0 cs0 u) w) b kk c0 cs0

theorem codeF_sim (K : Known E P) (hC : CallOK P F) (hS : SumOK E P) (hD : DrawOK P E F) (hF : CodeOK P F) (H : FuncId → List V → Option AMode → Heap → Nat → KC R0 → Option R0) : CodeOK P ⟨codeF E F, H⟩ := by
  intro c st k r e μ a u w b c0 cs0 it kk hs hb hit
  replace e : codeF E F c st k = some r := e
  cases c <;> first | (cases e; done) | skip
  case skip =>
    rcases hit with rfl | ⟨x, hx, _⟩
    · exact ⟨.normal, st, e, .normal, a, u, w, μ, .one step_skip, .normal, hs, rfl, Ext.refl _ _ _ _⟩
    · cases hx
  case region id ops draw =>
    rcases hit with rfl | ⟨x, hx, _⟩
    · obtain ⟨ops⟩ := ops
      cases draw with
      | true => exact hD id ops st k r e μ a u w b c0 cs0 kk hs hb
      | false =>
        have h1 := opsF_sim K hC hS ops ops 0 (by simp) st k r e μ a u w b c0 cs0 kk hs hb
        rw [← List.range_eq_range'] at h1
        exact .of_steps (.one step_region) (Ext.refl _ _ _ _) rfl h1
    · cases hx
  case seq x y =>
    rcases hit with rfl | ⟨x, hx, _⟩
    · have e : F.code x st (seqK F y k) = some r := e
      obtain ⟨e1, st1, h1, e1', a1, u1, w1, μ1, harr, her, hsr, hu, hx⟩ := hF x st _ r e μ a u w b c0 cs0 (.code x) (.code y :: kk) hs hb (.inl rfl)
      cases her with
      | normal => exact .of_steps (.head step_seq harr) hx hu (hF y st1 k r h1 μ1 a1 u1 w1 b c0 cs0 (.code y) kk hsr (hb.trans (kindOf_eq hu).symm) (.inl rfl))
      | exit i => exact ⟨.exit i, st1, h1, .exit i, a1, u1, w1, μ1, .of_steps (.one step_seq) (.pass (x := .code y) rfl (fun _ _ => .inl (by simp)) harr), .exit i, hsr, hu, hx⟩
      | ret => exact ⟨.ret, st1, h1, .ret, a1, u1, w1, μ1, .of_steps (.one step_seq) (.pass (x := .code y) rfl (fun _ _ => .inl (by simp)) harr), .ret, hsr, hu, hx⟩
      | @pan ch ch' hc => exact ⟨.pan ch, st1, h1, .panic ch', a1, u1, w1, μ1, .of_steps (.one step_seq) (.pass (x := .code y) rfl (fun _ _ => .inl (by simp)) harr), .pan hc, hsr, hu, hx⟩
    · cases hx
  case cond c x y =>
    rcases hit with rfl | ⟨x, hx, _⟩
    · have e : asB (ev st.tm c) none (fun t => F.code (Bool.rec (motive := fun _ => Code) y x t) st k) = some r := e
      obtain ⟨t, ht, e1⟩ := asB_some e
      have hv := ev_rel (μ := μ) hs.tm c
      rw [ht] at hv
      have hc : a.eval c = .bool t := by
        generalize a.eval c = v at *
        cases hv; rfl
      have hstep := step_cond (P := P) (b := b) (k := kk) (cs := csOf c0 cs0 u) (w := w) (x := x) (y := y) hc
      cases t with
      | true => exact .of_steps (.one hstep) (Ext.refl _ _ _ _) rfl (hF x st k r e1 μ a u w b c0 cs0 (.code x) kk hs hb (.inl rfl))
      | false => exact .of_steps (.one hstep) (Ext.refl _ _ _ _) rfl (hF y st k r e1 μ a u w b c0 cs0 (.code y) kk hs hb (.inl rfl))
    · cases hx
  case block id x =>
    rcases hit with rfl | ⟨x, hx, _⟩
    · have e : F.code x st (blockK id k) = some r := e
      obtain ⟨e1, st1, h1, e1', a1, u1, w1, μ1, harr, her, hsr, hu, hx⟩ := hF x st _ r e μ a u w b c0 cs0 (.code x) (.inBlock id :: kk) hs hb (.inl rfl)
      cases her with
      | normal => exact ⟨.normal, st1, h1, .normal, a1, u1, w1, μ1, Steps.head step_block (Steps.trans harr (.one step_inBlock)), .normal, hsr, hu, hx⟩
      | exit i =>
        have h1 : ifB (Nat.beq i id) (k .normal st1) (k (.exit i) st1) = some r := h1
        rw [ifB_eq] at h1
        split at h1
        · rename_i hi
          have hi := beq_true.1 hi
          exact ⟨.normal, st1, h1, .normal, a1, u1, w1, μ1, Steps.head step_block (harr kk (by simp [exitTo, hi])), .normal, hsr, hu, hx⟩
        · rename_i hi
          have hi : ¬ i = id := fun h' => hi (by subst h'; exact Nat.beq_refl _)
          refine ⟨.exit i, st1, h1, .exit i, a1, u1, w1, μ1, ?_, .exit i, hsr, hu, hx⟩
          intro k' hk'
          exact Steps.head step_block (harr k' (by simp only [exitTo]; rw [if_neg (by simpa using fun h' => hi h'.symm)]; exact hk'))
      | ret =>
        obtain ⟨todo, h2⟩ := harr
        exact ⟨.ret, st1, h1, .ret, a1, u1, w1, μ1, ⟨todo, .head step_block h2⟩, .ret, hsr, hu, hx⟩
      | @pan ch ch' hc =>
        obtain ⟨todo, h2⟩ := harr
        exact ⟨.pan ch, st1, h1, .panic ch', a1, u1, w1, μ1, ⟨todo, .head step_block h2⟩, .pan hc, hsr, hu, hx⟩
    · cases hx
  case loop x =>
    have e : F.code x st (seqK F (.loop x) k) = some r := e
    have hst : step P (lone (b.at a (it :: kk)) (csOf c0 cs0 u) w) = .next (lone (b.at a (.code x :: .inLoop x :: kk)) (csOf c0 cs0 u) w) := by
      rcases hit with rfl | ⟨y, hy, rfl⟩
      · exact step_loop
      · injection hy with hy
        subst hy
        exact step_inLoop
    obtain ⟨e1, st1, h1, e1', a1, u1, w1, μ1, harr, her, hsr, hu, hx⟩ := hF x st _ r e μ a u w b c0 cs0 (.code x) (.inLoop x :: kk) hs hb (.inl rfl)
    cases her with
    | normal => exact .of_steps (.head hst harr) hx hu (hF (.loop x) st1 k r h1 μ1 a1 u1 w1 b c0 cs0 (.inLoop x) kk hsr (hb.trans (kindOf_eq hu).symm) (.inr ⟨x, rfl, rfl⟩))
    | exit i => exact ⟨.exit i, st1, h1, .exit i, a1, u1, w1, μ1, .of_steps (.one hst) (.pass (x := .inLoop x) rfl (fun _ _ => .inl (by simp)) harr), .exit i, hsr, hu, hx⟩
    | ret => exact ⟨.ret, st1, h1, .ret, a1, u1, w1, μ1, .of_steps (.one hst) (.pass (x := .inLoop x) rfl (fun _ _ => .inl (by simp)) harr), .ret, hsr, hu, hx⟩
    | @pan ch ch' hc => exact ⟨.pan ch, st1, h1, .panic ch', a1, u1, w1, μ1, .of_steps (.one hst) (.pass (x := .inLoop x) rfl (fun _ _ => .inl (by simp)) harr), .pan hc, hsr, hu, hx⟩
  case exit id =>
    rcases hit with rfl | ⟨x, hx, _⟩
    · exact ⟨.exit id, st, e, .exit id, a, u, w, μ, fun k' hk' => .one (step_exit hk'), .exit id, hs, rfl, Ext.refl _ _ _ _⟩
    · cases hx
  case label l =>
    rcases hit with rfl | ⟨x, hx, _⟩
    · exact ⟨.normal, st, e, .normal, a, u, w, μ, .one step_label, .normal, hs, rfl, Ext.refl _ _ _ _⟩
    · cases hx
  case ret =>
    rcases hit with rfl | ⟨x, hx, _⟩
    · exact ⟨.ret, st, e, .ret, a, u, w, μ, ⟨_, .one step_ret⟩, .ret, hs, rfl, Ext.refl _ _ _ _⟩
    · cases hx

/-! What a function hands back. -/
def resOne (tmps : Array Value) : ResultVar → Sem Value
  | .tmp t => pure (tmps.getD t undef)
  | .cell p t => do loadVar t (← asAddr (tmps.getD p undef))

theorem results_eq (fn : Func) (tmps : Array Value) : results fn tmps = (do let vs ← fn.results.mapM (resOne tmps); pure (if h : vs.size = 1 then vs[0] else .tuple vs) : Sem Value) := rfl

theorem resultK_sim (K : Known E P) {μ : Mu} {h : Heap} {nx : Nat} {w : World} (g : G μ h nx w) {rv : ResultVar} {tm : T V} {a : Act} (ht : TR μ tm a.tmps) {k : V → Option R0} {r : R0} (e : resultK E rv tm h k = some r) :
    ∃ v, k v = some r ∧ Val P μ w (resOne a.tmps rv) v := by
  cases rv with
  | tmp t =>
    have e : fH (rd tm t) k = some r := e
    rw [fH_eq] at e
    exact ⟨_, e, _, rfl, ht t⟩
  | cell p t =>
    have e : loadK E t (rd tm p) h k = some r := e
    obtain ⟨b, off, hp, _⟩ := asP_some e
    obtain ⟨v, h1, h2⟩ := loadK_sim (P := P) (w := w) K g e
    refine ⟨v, h1, ?_⟩
    have hv := ht p
    obtain ⟨v', q1, q2⟩ := h2 _ hv
    rw [hp] at hv
    unfold resOne
    simp only
    generalize a.tmps.getD p undef = pv at *
    cases hv
    refine ⟨v', ?_, q2⟩
    simpa [asAddr, Instr.loadAt, Instr.sureAddr] using q1

theorem resultsK_sim (K : Known E P) {μ : Mu} {h : Heap} {nx : Nat} {w : World} (g : G μ h nx w) {tm : T V} {a : Act} (ht : TR μ tm a.tmps) : ∀ (rs : List ResultVar) (k : List V → Option R0) (r : R0), resultsK E rs tm h k = some r →
    ∃ l, k l = some r ∧ ∃ l', (rs.mapM (resOne a.tmps)).run P w = .ok l' w ∧ VL μ l l'
  | [], k, r, e => ⟨[], e, [], by simp, .nil⟩
  | rv :: rs, k, r, e => by
    have e : resultK E rv tm h (fun v => resultsK E rs tm h (fun l => k (v :: l))) = some r := e
    obtain ⟨v, e1, v', h1, h2⟩ := resultK_sim (P := P) (w := w) K g ht e
    obtain ⟨l, e2, l', h3, h4⟩ := resultsK_sim K g ht rs _ r e1
    refine ⟨v :: l, e2, v' :: l', ?_, .cons h2 h4⟩
    rw [List.mapM_cons]
    simp only [Sem.run_bind, h1, Result.andThen_ok, h3, Sem.run_pure]

theorem results_sim (K : Known E P) {μ : Mu} {h : Heap} {nx : Nat} {w : World} (g : G μ h nx w) {tm : T V} {a : Act} (ht : TR μ tm a.tmps) {fn : Func} {k : V → Option R0} {r : R0} (e : resultsK E fn.results.toList tm h (fun l => fH (oneV l) k) = some r) :
    ∃ v, k v = some r ∧ Val P μ w (results fn a.tmps) v := by
  obtain ⟨l, e1, l', h1, h2⟩ := resultsK_sim (P := P) (w := w) K g ht fn.results.toList _ r e
  rw [fH_eq] at e1
  refine ⟨oneV l, e1, (if h : l'.toArray.size = 1 then l'.toArray[0] else .tuple l'.toArray), ?_, ?_⟩
  · rw [results_eq, Array.mapM_eq_mapM_toList]
    simp only [Sem.run_bind, Sem.run_map, h1, Result.andThen_ok, Sem.run_pure]
  · cases h2 with
    | nil => exact .tup .nil
    | cons h t => cases t with
      | nil => exact h
      | cons h' t => exact .tup (.cons h (.cons h' t))

end
end Go.AM
