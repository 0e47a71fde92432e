/- THE ABSTRACT MACHINE, part 18: every operation. -/
import Derived.Test.YtghphioodlkcdaaGreatDoorAm17
namespace Go.AM
open Go

/-- What an operation hands on, when it goes on. -/
def NextV (μ : Mu) (v : V) : Next → Prop
  | .value v' => VR μ v v'
  | .skip => v = undefV
  | _ => False

/-- What the model does, where the abstract operation comes to this. -/
def ResSim (P : Program) (μ : Mu) (h : Heap) (nx : Nat) (w : World) (s : Sem Next) : ORes → Prop
  | .val v f => ∀ h' nx', EffS f h nx h' nx' → ∃ nxt w' μ', s.run P w = .ok nxt w' ∧ NextV μ' v nxt ∧ G μ' h' nx' w' ∧ Ext μ h nx w μ' h' nx' w'
  | .pan v => ∃ v', s.run P w = .halt (.panic v') w ∧ VR μ v v'
  | .call f args => ∃ args' : List Value, s.run P w = (callFunc f ⟨args'⟩).run P w ∧ VL μ args args'
  | .dfr f args => ∃ (cap' as' : List Value), s.run P w = .ok (.defer ⟨.fn (.func f) ⟨cap'⟩, ⟨as'⟩⟩) w ∧ VL μ args (as' ++ cap')
  | .recov => s.run P w = .ok .recover w
  | .stuck => True

section
variable {P : Program} {μ : Mu} {h : Heap} {nx : Nat} {w : World} {E : Env} (K : Known E P) (g : G μ h nx w) {R : Type} {r : R} {kv : V → Option R} {ke : ORes → Option R} {s : Sem Next}

/-- Either way to go on. -/
def Goes (P : Program) (μ : Mu) (h : Heap) (nx : Nat) (w : World) (s : Sem Next) (kv : V → Option R) (ke : ORes → Option R) (r : R) : Prop :=
  (∃ v, kv v = some r ∧ ∃ v', s.run P w = .ok (.value v') w ∧ VR μ v v') ∨ ∃ res, ke res = some r ∧ ResSim P μ h nx w s res

theorem run_v (s0 : Sem Value) : (do pure (Next.value (← s0)) : Sem Next).run P w = (s0.run P w).andThen fun v w' => .ok (.value v) w' := by simp
theorem run_u (s0 : Sem Unit) : (do s0; pure Next.skip : Sem Next).run P w = (s0.run P w).andThen fun _ w' => .ok .skip w' := by simp

theorem Goes.val {s0 : Sem Value} (hs : s.run P w = (s0.run P w).andThen fun v w' => .ok (.value v) w') (e : ∃ v, kv v = some r ∧ Val P μ w s0 v) : Goes P μ h nx w s kv ke r := by
  obtain ⟨v, h1, v', h2, h3⟩ := e
  exact .inl ⟨v, h1, v', by rw [hs, h2]; rfl, h3⟩

theorem Goes.valE {s0 : Sem Value} {res : ORes} (hs : s.run P w = (s0.run P w).andThen fun v w' => .ok (.value v) w') (e : ke res = some r) (hv : (∃ v f, res = .val v f) ∨ res = .stuck) (h0 : ∀ v f, res = .val v f → ValE P μ h nx w s0 v f) : Goes P μ h nx w s kv ke r := by
  refine .inr ⟨res, e, ?_⟩
  rcases hv with ⟨v, f, rfl⟩ | rfl
  · intro h' nx' hE
    obtain ⟨v', w', μ', q1, q2, q3, q4⟩ := h0 v f rfl h' nx' hE
    exact ⟨.value v', w', μ', by rw [hs, q1]; rfl, q2, q3, q4⟩
  · trivial

theorem Goes.unitE {s0 : Sem Unit} {res : ORes} (hs : s.run P w = (s0.run P w).andThen fun _ w' => .ok .skip w') (e : ke res = some r) (hv : (∃ v f, res = .val v f) ∨ res = .stuck) (h0 : ∀ v f, res = .val v f → v = undefV ∧ UnitE P μ h nx w s0 f) : Goes P μ h nx w s kv ke r := by
  refine .inr ⟨res, e, ?_⟩
  rcases hv with ⟨v, f, rfl⟩ | rfl
  · intro h' nx' hE
    obtain ⟨hv, hu⟩ := h0 v f rfl
    obtain ⟨w', μ', q1, q3, q4⟩ := hu h' nx' hE
    exact ⟨.skip, w', μ', by rw [hs, q1]; rfl, hv, q3, q4⟩
  · trivial

/-- What comes of an operation that yields or is stuck. -/
def VS (res : ORes) : Prop := (∃ v f, res = .val v f) ∨ res = .stuck

theorem VS.val (v : V) (f : Eff) : VS (.val v f) := .inl ⟨v, f, rfl⟩
theorem VS.stuck : VS .stuck := .inr rfl
theorem VS.ifB {c : Bool} {x y : ORes} (hx : VS x) (hy : VS y) : VS (AM.ifB c x y) := by cases c <;> assumption

theorem vs_allocT (t : TypeId) : VS (oAllocT E t nx) := by
  unfold oAllocT
  split
  · split
    · exact .ifB (.val _ _) .stuck
    · exact .stuck
  · exact .stuck
theorem vs_alloc (l : List V) : VS (oAlloc l nx) := .ifB (.val _ _) .stuck
theorem vs_buildSlice (t : TypeId) (len : Nat) (parts : List (Nat × V)) : VS (oBuildSlice E t len parts nx) := by
  unfold oBuildSlice
  split
  · split
    · split
      · refine .ifB (.ifB (.ifB ?_ .stuck) .stuck) .stuck
        split
        · exact .ifB (.ifB (.val _ _) .stuck) .stuck
        · exact .stuck
      · exact .stuck
    · exact .stuck
  · exact .stuck
theorem vs_store (t : TypeId) (a v : V) : VS (oStore E t a v h) := by
  unfold oStore
  cases a <;> first
    | exact .stuck
    | (show VS (match E.ty.get t with | some i => _ | none => _)
       split
       · exact .ifB (.ifB (.val _ _) .stuck) .stuck
       · exact .stuck)
theorem vs_appNew (e : TypeInfo) (old : Option (List V)) (len n : Nat) (new : List V) : VS (appNew e old len n new nx) := by
  unfold appNew
  refine .ifB (.ifB ?_ .stuck) .stuck
  split
  · exact .ifB (.val _ _) .stuck
  · exact .stuck
theorem vs_append (ats : List TypeId) (x y : V) : VS (oAppend E ats x y h nx) := by
  unfold oAppend
  split
  · exact .stuck
  · split
    · split
      · split
        · refine .ifB (.ifB .stuck (.ifB .stuck ?_)) .stuck
          split
          · exact .stuck
          · unfold oAppendTo
            split
            · exact .ifB .stuck (.ifB (.val _ _) (vs_appNew _ _ _ _ _))
            · refine .ifB ?_ (.ifB (.ifB (.val _ _) .stuck) (vs_appNew _ _ _ _ _))
              unfold appOpen
              split
              · exact .ifB (.ifB .stuck (.ifB (.ifB (.ifB (.val _ _) (.ifB (.ifB (.ifB (.val _ _) .stuck) .stuck) .stuck)) .stuck) .stuck)) .stuck
              · exact .stuck
            · exact .stuck
        · exact .stuck
      · exact .stuck
    · exact .stuck
theorem vs_copy (ats : List TypeId) (d x : V) : VS (oCopy E ats d x h) := by
  unfold oCopy
  split
  · exact .stuck
  · split
    · split
      · split
        · split
          · exact .val _ _
          · exact .stuck
        · split
          · exact .ifB (.val _ _) .stuck
          · exact .stuck
        · exact .stuck
      · exact .stuck
    · exact .stuck
theorem vs_convert (a b : TypeId) (x : V) : VS (oConvert E a b x h nx) := by
  unfold oConvert
  split
  · split
    · cases x <;> first
        | exact .stuck
        | (show VS (wrK _ _ _)
           rw [wrK_eq]
           exact .val _ _)
    · split
      · exact .val _ _
      · split
        · unfold oOpt; split
          · exact .val _ _
          · exact .stuck
        · exact .stuck
    · split
      · split
        · unfold oToBytes; split
          · exact .val _ _
          · exact .stuck
        · exact .stuck
      · split
        · exact .ifB (.ifB (.val _ _) .stuck) .stuck
        · exact .stuck
      · exact .stuck
    · exact .stuck
  · exact .stuck
theorem vs_makeSlice (t : TypeId) (l c : V) : VS (oMakeSlice E t l c nx) := by
  unfold oMakeSlice
  split
  · split
    · split
      · exact .ifB (.ifB (.ifB (.ifB (.ifB (.val _ _) .stuck) .stuck) .stuck) .stuck) .stuck
      · exact .stuck
    · exact .stuck
  · exact .stuck
theorem vs_lookup (t : TypeId) (m k : V) (ok : Bool) : VS (oLookup E t m k ok h) := by
  unfold oLookup
  split
  · split
    · split
      · split
        · exact .val _ _
        · exact .val _ _
      · exact .stuck
    · exact .stuck
  · exact .stuck
theorem vs_mapUpdate (t : TypeId) (m k v : V) : VS (oMapUpdate E t m k v h) := by
  unfold oMapUpdate
  split
  · split
    · exact .val _ _
    · exact .stuck
  · exact .stuck
theorem vs_makeMap (o : Option Operand) : VS (oMakeMap o nx) := by
  unfold oMakeMap
  split
  · exact .val _ _
  · exact .stuck
theorem vs_typeAssert (x : V) (a : TypeId) (ok : Bool) : VS (oTypeAssert E x a ok) := by
  have z : ∀ i : TypeInfo, VS (match i.zero with | some z => ORes.val (.tup [ofVal z, .b false]) .no | none => .stuck) := fun i => by
    split
    · exact .val _ _
    · exact .stuck
  unfold oTypeAssert
  split
  · split
    · exact .stuck
    · split
      · exact .ifB (.val _ _) (.ifB (z _) .stuck)
      · exact .ifB (z _) .stuck
      · exact .stuck
  · exact .stuck
theorem vs_range (t : TypeId) (x : V) : VS (oRange E t x nx) := by
  unfold oRange
  split
  · exact .val _ _
  · exact .stuck
theorem vs_next (x : V) (b : Bool) : VS (oNext x b h) := by
  unfold oNext
  split
  · split
    · split
      · exact .val _ _
      · exact .ifB (.val _ _) .stuck
    · exact .stuck
  · exact .stuck

theorem andThen_id {α : Type} (x : Result α) : (x.andThen fun v w' => .ok v w') = x := by cases x <;> rfl

section
include K g

theorem builtinK_sim {b : Builtin} {ats : Array TypeId} {ty : TypeId} {cs : Array Bool} {args : List V} {args' : List Value} (ha : VL μ args args') (e : builtinK E b ats.toList args h nx kv ke = some r) :
    Goes P μ h nx w (Go.builtin b ats ty cs ⟨args'⟩) kv ke r := by
  obtain ⟨ats⟩ := ats
  unfold builtinK at e
  cases b <;> first | (cases e; done) | skip
  all_goals simp only at e
  case append =>
    split at e
    · rename_i x y
      cases ha with | cons hx ha =>
      cases ha with | cons hy ha =>
      cases ha
      exact Goes.valE (s0 := Builtin.append_ ⟨ats⟩ ty #[_, _]) (run_v _) e (vs_append _ _ _) (fun v f hv => oAppend_sim K g hx hy hv)
    · cases e
  case copy =>
    split at e
    · rename_i x y
      cases ha with | cons hx ha =>
      cases ha with | cons hy ha =>
      cases ha
      exact Goes.valE (s0 := Builtin.copy_ ⟨ats⟩ ty #[_, _]) (run_v _) e (vs_copy _ _ _) (fun v f hv => oCopy_sim K g hx hy hv)
    · cases e
  case len =>
    split at e
    · cases ha with | cons hx ha =>
      cases ha
      exact Goes.val (s0 := Builtin.len_ ⟨ats⟩ ty #[_]) (run_v _) (lenK_sim K hx e)
    · cases e
  case cap =>
    split at e
    · cases ha with | cons hx ha =>
      cases ha
      exact Goes.val (s0 := Builtin.cap_ ⟨ats⟩ ty #[_]) (run_v _) (capK_sim K hx e)
    · cases e
  case max =>
    obtain ⟨v, x', m', rfl, h2, h3⟩ := foldK_sim (P := P) (w := w) (f' := Builtin.max2) (fun hx hy e => max2_sim hx hy e) ha e
    exact Goes.val (s0 := Builtin.max_ ⟨ats⟩ ty ⟨x' :: m'⟩) (run_v _) ⟨v, h2, by simpa [Val, Builtin.max_] using h3⟩
  case min =>
    obtain ⟨v, x', m', rfl, h2, h3⟩ := foldK_sim (P := P) (w := w) (f' := Builtin.min2) (fun hx hy e => min2_sim hx hy e) ha e
    exact Goes.val (s0 := Builtin.min_ ⟨ats⟩ ty ⟨x' :: m'⟩) (run_v _) ⟨v, h2, by simpa [Val, Builtin.min_] using h3⟩
  case panic =>
    split at e
    · cases ha with | cons hx ha =>
      cases ha
      rename_i x _
      refine .inr ⟨_, e, ?_⟩
      rcases oPanic_val (x := x) rfl with ⟨v, hv⟩ | hv
      · rw [hv]
        obtain ⟨v', h1, h2⟩ := oPanic_sim (P := P) (w := w) hx hv
        exact ⟨v', by simp [Go.builtin, h1], h2⟩
      · rw [hv]; trivial
    · cases e
  case recover => exact .inr ⟨_, e, by simp [ResSim, Go.builtin]⟩

theorem callOpK_sim {c : Call} {ty : TypeId} {tm : T V} {a : Act} (ht : TR μ tm a.tmps) (e : callOpK E c tm h nx kv ke = some r) :
    Goes P μ h nx w (do let d ← resolve a.eval c ty; invoke d.target d.args) kv ke r := by
  obtain ⟨callee, ⟨args⟩, ats⟩ := c
  have ha := evs_rel (μ := μ) ht args
  cases callee with
  | value f =>
    have e : ke (oCallV (ev tm f) (evs tm args)) = some r := e
    refine .inr ⟨_, e, ?_⟩
    have hf := ev_rel (μ := μ) ht f
    generalize ev tm f = fv at *
    generalize hfv : a.eval f = fv' at *
    cases hf <;> first | trivial | skip
    rename_i first' cap' g' h1 h2
    refine ⟨first' ++ (args.map a.eval ++ cap'), ?_, ?_⟩
    · simp [resolve, hfv, Deferred.ofValue, invoke]
    · rw [appL_eq, appL_eq]
      exact h1.append (ha.append h2)
  | invoke recv m => cases e
  | builtin b =>
    have e : builtinK E b ats.toList (evs tm args) h nx kv ke = some r := e
    have := builtinK_sim (ty := ty) (cs := (⟨args⟩ : Array Operand).map (fun | .const _ => true | _ => false)) K g ha e
    have hargs : (⟨args⟩ : Array Operand).map a.eval = ⟨args.map a.eval⟩ := Array.ext' (by simp)
    have hs : (do let d ← resolve a.eval ⟨.builtin b, ⟨args⟩, ats⟩ ty; invoke d.target d.args : Sem Next) = Go.builtin b ats ty ((⟨args⟩ : Array Operand).map (fun | .const _ => true | _ => false)) ⟨args.map a.eval⟩ := by
      simp only [resolve, hargs]
      rfl
    rw [hs]
    exact this

omit K g in
theorem oDefer_sim {c : Call} {ty : TypeId} {tm : T V} {a : Act} (ht : TR μ tm a.tmps) (e : ke (oDefer c tm) = some r) : Goes P μ h nx w (do pure (Next.defer (← resolve a.eval c ty))) kv ke r := by
  refine .inr ⟨_, e, ?_⟩
  obtain ⟨callee, ⟨args⟩, ats⟩ := c
  have ha := evs_rel (μ := μ) ht args
  cases callee with
  | value f =>
    show ResSim P μ h nx w _ (asF (ev tm f) .stuck (fun g first cap => .dfr g (appL first (appL (evs tm args) cap))))
    have hf := ev_rel (μ := μ) ht f
    generalize ev tm f = fv at *
    generalize hfv : a.eval f = fv' at *
    cases hf <;> first | trivial | skip
    rename_i first' cap' g' h1 h2
    refine ⟨cap', first' ++ args.map a.eval, ?_, ?_⟩
    · simp [resolve, hfv, Deferred.ofValue]
    · rw [appL_eq, appL_eq, List.append_assoc]
      exact h1.append (ha.append h2)
  | invoke recv m => trivial
  | builtin b => trivial

set_option maxHeartbeats 2000000 in
/-- Every operation. -/
theorem opR_sim {o : Oper} {tm : T V} {a : Act} (ht : TR μ tm a.tmps) (e : opR E o.op tm h nx kv ke = some r) : Goes P μ h nx w (execOp a.eval o) kv ke r := by
  obtain ⟨dst, op, ty, pos, after, gd⟩ := o
  have hv := fun x => ev_rel (μ := μ) ht x
  cases op <;> first | (cases e; done) | skip
  case move x => exact .inl ⟨_, by rw [← e]; exact (fH_eq _ _).symm, _, rfl, hv x⟩
  case assign x => exact .inl ⟨_, by rw [← e]; exact (fH_eq _ _).symm, _, rfl, hv x⟩
  case pick c x y =>
    obtain ⟨v, v', h1, h2, h3⟩ := pickK_sim (P := P) (w := w) (hv c) (hv x) (hv y) e
    exact .inl ⟨v, h1, v', h2, h3⟩
  case alloc t => exact Goes.valE (s0 := Instr.alloc t true (.tuple #[])) (run_v _) e (vs_allocT _) (fun v f hh => oAllocT_sim K g hh)
  case box t x => exact Goes.valE (s0 := Instr.box t (a.eval x)) (run_v _) e (vs_alloc _) (fun v f hh => oBox_sim g (hv x) hh)
  case build t parts => exact Goes.val (s0 := Instr.build t (parts.map fun x => (x.1, a.eval x.2))) (run_v _) (by
    have := buildK_sim (w := w) K (partsV_rel ht parts) e
    rwa [Array.toArray_toList] at this)
  case buildSlice t n parts => exact Goes.valE (s0 := Instr.buildSlice t n (parts.map fun x => (x.1, a.eval x.2))) (run_v _) e (vs_buildSlice _ _ _) (fun v f hh => by
    have := oBuildSlice_sim (w := w) K g (partsV_rel ht parts) hh
    rwa [Array.toArray_toList] at this)
  case load t x =>
    obtain ⟨v, h1, h2⟩ := loadK_sim (w := w) K g e
    exact Goes.val (s0 := Instr.loadAt t (a.eval x)) (run_v _) ⟨v, h1, h2 _ (hv x)⟩
  case store t x y => exact Goes.unitE (s0 := Instr.storeAt t (a.eval x) (a.eval y)) (run_u _) e (vs_store _ _ _) (fun v f hh => oStore_sim K g (hv x) (hv y) hh)
  case nilCheck x =>
    obtain ⟨h1, h2⟩ := nilCheckK_sim (P := P) (w := w) (o := ⟨dst, .nilCheck x, ty, pos, after, gd⟩) (ρ := a.eval) rfl (hv x) e
    exact .inl ⟨_, h1, _, h2, hv x⟩
  case binOp op t x y yt =>
    obtain ⟨v, h1, v', h2, h3⟩ := binK_sim (P := P) (w := w) K (ox := x) (oy := y) (hv x) (hv y) e
    exact Goes.val (s0 := do eqGuard op t x y (a.eval x) (a.eval y); binOp op t (a.eval x) (a.eval y)) (run_v _) ⟨v, h1, v', h2, h3⟩
  case unOp op t x => exact Goes.val (s0 := Op.unary op (a.eval x)) (run_v _) (unK_sim (hv x) e)
  case convert s d x => exact Goes.valE (s0 := convert s d (a.eval x)) (run_v _) e (vs_convert _ _ _) (fun v f hh => oConvert_sim K g (hv x) hh)
  case makeInterface t x => exact Goes.val (s0 := Instr.makeInterface t (a.eval x)) (run_v _) (makeIfaceK_sim K (hv x) e)
  case makeFunc f xs ys =>
    have e : makeFuncK f (evs tm xs.toList) (evs tm ys.toList) kv = some r := e
    obtain ⟨xs⟩ := xs
    obtain ⟨ys⟩ := ys
    unfold makeFuncK at e
    split at e
    · rename_i q _
      rw [fHs_eq, fHs_eq] at e
      refine .inl ⟨_, e, .func (.func q) ⟨xs.map a.eval⟩ ⟨ys.map a.eval⟩, ?_, .f q (evs_rel ht xs) (evs_rel ht ys)⟩
      simp [execOp, Instr.makeFunc]
    · cases e
  case makeMap t q =>
    have e : ke (oMakeMap q nx) = some r := e
    cases q with
    | none => exact Goes.valE (s0 := Instr.makeMap t none) (run_v _) e (vs_makeMap _) (fun v f hh => (oMakeMap_sim g hh).2)
    | some q => exact .inr ⟨_, e, trivial⟩
  case makeSlice t l c => exact Goes.valE (s0 := Instr.makeSlice t (a.eval l) (a.eval c)) (run_v _) e (vs_makeSlice _ _ _) (fun v f hh => oMakeSlice_sim K g (hv l) (hv c) hh)
  case slice t x lo hi mx => exact Goes.val (s0 := Instr.sliceAt t (a.eval x) (lo.map a.eval) (hi.map a.eval) (mx.map a.eval)) (run_v _) (sliceK_sim K g (hv x) (optE_rel ht lo) (optE_rel ht hi) (optE_rel ht mx) e)
  case fieldAddr t x f => exact Goes.val (s0 := Instr.fieldAt t (a.eval x) f) (run_v _) (fieldAddrK_sim K (hv x) e)
  case field t x f => exact Goes.val (s0 := Instr.field t (a.eval x) f) (run_v _) (fieldK_sim K (hv x) e)
  case indexAddr t x i => exact Goes.val (s0 := Instr.indexAt t (a.eval x) (a.eval i)) (run_v _) (indexAddrK_sim K (hv x) (hv i) e)
  case index t x i => exact Goes.val (s0 := Instr.index t (a.eval x) (a.eval i)) (run_v _) (indexK_sim K (hv x) (hv i) e)
  case lookup t m k ok => exact Goes.valE (s0 := Instr.lookup t (a.eval m) (a.eval k) ok) (run_v _) e (vs_lookup _ _ _ _) (fun v f hh => oLookup_sim K g (hv m) (hv k) hh)
  case mapUpdate t m k x => exact Goes.unitE (s0 := Instr.mapUpdate t (a.eval m) (a.eval k) (a.eval x)) (run_u _) e (vs_mapUpdate _ _ _ _) (fun v f hh => oMapUpdate_sim K g (hv m) (hv k) (hv x) hh)
  case range t x => exact Goes.valE (s0 := Instr.range t (a.eval x)) (run_v _) e (vs_range _ _) (fun v f hh => oRange_sim K g (hv x) hh)
  case next it b => exact Goes.valE (s0 := Instr.next (a.eval it) b ty) (run_v _) e (vs_next _ _) (fun v f hh => oNext_sim g (hv it) hh)
  case typeAssert x xt t ok => exact Goes.valE (s0 := Instr.typeAssert (a.eval x) xt t ok) (run_v _) e (vs_typeAssert _ _ _) (fun v f hh => oTypeAssert_sim K g (hv x) hh)
  case extract x i => exact Goes.val (s0 := Instr.extract (a.eval x) i) (run_v _) (extractK_sim (hv x) e)
  case call c => exact callOpK_sim K g ht e
  case defer c => exact oDefer_sim ht e
  case panic x =>
    have e : ke (oPanic (ev tm x)) = some r := e
    refine .inr ⟨_, e, ?_⟩
    rcases oPanic_val (x := ev tm x) rfl with ⟨v, hh⟩ | hh
    · rw [hh]
      obtain ⟨v', h1, h2⟩ := oPanic_sim (P := P) (w := w) (hv x) hh
      exact ⟨v', by simp [execOp, h1], h2⟩
    · rw [hh]; trivial

end
end
end Go.AM
