/- THE ABSTRACT MACHINE, part 29: a drawn region, at all times. -/
import Derived.Test.YtghphioodlkcdaaGreatDoorAm28
import Derived.Orders
namespace Go.AM
open Go

/-- What is fixed of a region's run. -/
structure Ctx (E : Env) (F : Rec R0) (ops : List Oper) (nt : Nat) (tr : Nat → Pt) (ptr : Nat → V) (nm : Nat → Nat) (recs : List Rc) (nx0 nx1 : Nat) (h0 : Heap) : Prop where
  reg : RegOK E ops
  step : ∀ j o, ops[j]? = some o → StepA E F ops nt ptr recs j o (tr j) (tr (j + 1))
  named : ∀ i o, ops[i]? = some o → isA o = true → Named1 E o h0 nx0 nx1 (ptr i) (nm i)
  inj : ∀ i j oi oj, ops[i]? = some oi → ops[j]? = some oj → isA oi = true → isA oj = true → nm i = nm j → i = j
  chk : ∀ i o tm v j ha na hb nb, Rc.rd i o tm v ∈ recs → Rc.ef j ha na hb nb ∈ recs → (Anc ops i j ∨ Anc ops j i) ∨ (stillV E o tm ha na = some v ∧ stillV E o tm hb nb = some v)

/-- What holds behind some of its operations. -/
structure JJ (E : Env) (ops : List Oper) (nt : Nat) (tr : Nat → Pt) (nm : Nat → Nat) (hp : Heap) (nx0 : Nat) (h0 : Heap) (μ0 : Mu) (w0 : World) (ds : List Deferred) (S : Nat → Prop) (a : Act) (w : World) (μ : Mu) (c : Nat) : Prop where
  cl : Closed ops S
  size : a.tmps.size = nt
  dfs : a.defers = ds
  tmp : ∀ t, ∃ ct, ct ≤ ops.length ∧ (∀ i o, ops[i]? = some o → o.dst = some t → (S i ↔ i < ct)) ∧ VR μ (rd (tr ct).tm t) (a.tmps.getD t undef)
  cle : c ≤ ops.length
  hcut : ∀ i o, ops[i]? = some o → isE E o = true → (S i ↔ i < c)
  g : G μ (tr c).h (tr c).nx w
  ext : Ext μ0 hp nx0 w0 μ (tr c).h (tr c).nx w
  late : ∀ i o, ops[i]? = some o → isA o = true → ¬ S i → μ (nm i) = none ∧ nm i < (tr c).nx ∧ (tr c).h.get (nm i) = h0.get (nm i)

theorem Anc.le {E : Env} {ops : List Oper} (h : RegOK E ops) {i j : Nat} (ha : Anc ops i j) : i ≤ j :=
  ha (fun x => x ≤ j) (fun a o e hs ho he hb => by have := h.back a o e ho he hb; show e.on ≤ j; have hs : a ≤ j := hs; omega) (Nat.le_refl _)

theorem isE_of {E : Env} {o : Oper} (ha : isA o = false) (hp : clsP E o.op = false) (hr : clsR o.op = false) : isE E o = true := by
  simp only [isE, ha, hp, hr]; rfl
theorem isE_A {E : Env} {o : Oper} (ha : isA o = true) : isE E o = false := by simp only [isE, ha]
theorem isE_P {E : Env} {o : Oper} (ha : isA o = false) (hp : clsP E o.op = true) : isE E o = false := by simp only [isE, ha, hp]
theorem isE_R {E : Env} {o : Oper} (ha : isA o = false) (hp : clsP E o.op = false) (hr : clsR o.op = true) : isE E o = false := by simp only [isE, ha, hp, hr]; rfl

section
variable {E : Env} {F : Rec R0} {ops : List Oper} {nt : Nat} {tr : Nat → Pt} {ptr : Nat → V} {nm : Nat → Nat} {recs : List Rc} {nx0 nx1 : Nat} {h0 : Heap}

theorem StepA.tm {i : Nat} {o : Oper} {p q : Pt} (h : StepA E F ops nt ptr recs i o p q) : ∃ x, q.tm = putTv p.tm nt o.dst x := by
  cases h with
  | alloc _ ht _ _ => exact ⟨_, ht⟩
  | skip _ _ _ ht _ _ => exact ⟨_, ht⟩
  | still _ _ v _ _ ht _ _ => exact ⟨_, ht⟩
  | eff _ _ v _ _ _ _ ht => exact ⟨_, ht⟩

theorem StepA.mem {i : Nat} {o : Oper} {p q : Pt} (h : StepA E F ops nt ptr recs i o p q) : (q.h = p.h ∧ q.nx = p.nx) ∨ (isE E o = true ∧ Rc.ef i p.h p.nx q.h q.nx ∈ recs) := by
  cases h with
  | alloc _ ht hh hn => exact .inl ⟨hh, hn⟩
  | skip _ _ _ ht hh hn => exact .inl ⟨hh, hn⟩
  | still _ _ v _ _ ht hh hn => exact .inl ⟨hh, hn⟩
  | eff ha _ v hc hr _ he ht => exact .inr ⟨isE_of ha hc hr, he⟩

theorem op_at {i : Nat} (h : i < ops.length) : ∃ o, ops[i]? = some o := ⟨ops[i], List.getElem?_eq_getElem h⟩

variable (X : Ctx E F ops nt tr ptr nm recs nx0 nx1 h0)
include X

theorem tm_const {t : Tmp} {c : Nat} : ∀ d, c + d ≤ ops.length → (∀ i o, c ≤ i → i < c + d → ops[i]? = some o → o.dst ≠ some t) → rd (tr (c + d)).tm t = rd (tr c).tm t
  | 0, _, _ => rfl
  | d + 1, hn, hw => by
    obtain ⟨o, ho⟩ := op_at (ops := ops) (i := c + d) (by omega)
    obtain ⟨x, hx⟩ := (X.step _ o ho).tm
    rw [show c + (d + 1) = c + d + 1 from rfl, hx, rd_putTv, if_neg, tm_const d (by omega) (fun i o h1 h2 => hw i o h1 (by omega))]
    rintro ⟨h1, _⟩
    exact hw (c + d) o (by omega) (by omega) ho h1

theorem tm_const' {t : Tmp} {c c' : Nat} (h : c ≤ c') (hn : c' ≤ ops.length) (hw : ∀ i o, c ≤ i → i < c' → ops[i]? = some o → o.dst ≠ some t) : rd (tr c').tm t = rd (tr c).tm t := by
  have := tm_const X (t := t) (c := c) (c' - c) (by omega) (fun i o h1 h2 => hw i o h1 (by omega))
  rwa [show c + (c' - c) = c' from by omega] at this

theorem first_eff {c : Nat} : ∀ d, c + d ≤ ops.length → ((tr (c + d)).h = (tr c).h ∧ (tr (c + d)).nx = (tr c).nx) ∨
    ∃ e o, c ≤ e ∧ e < c + d ∧ ops[e]? = some o ∧ isE E o = true ∧ Rc.ef e (tr e).h (tr e).nx (tr (e + 1)).h (tr (e + 1)).nx ∈ recs ∧ (tr e).h = (tr c).h ∧ (tr e).nx = (tr c).nx
  | 0, _ => .inl ⟨rfl, rfl⟩
  | d + 1, hn => by
    rcases first_eff (c := c) d (by omega) with h | ⟨e, o, h1, h2, h3⟩
    · obtain ⟨o, ho⟩ := op_at (ops := ops) (i := c + d) (by omega)
      rcases (X.step _ o ho).mem with h' | h'
      · exact .inl ⟨h'.1.trans h.1, h'.2.trans h.2⟩
      · exact .inr ⟨c + d, o, by omega, by omega, ho, h'.1, h'.2, h.1, h.2⟩
    · exact .inr ⟨e, o, h1, by omega, h3⟩

theorem last_eff {c : Nat} : ∀ d, c + d ≤ ops.length → ((tr (c + d)).h = (tr c).h ∧ (tr (c + d)).nx = (tr c).nx) ∨
    ∃ e o, c ≤ e ∧ e < c + d ∧ ops[e]? = some o ∧ isE E o = true ∧ Rc.ef e (tr e).h (tr e).nx (tr (e + 1)).h (tr (e + 1)).nx ∈ recs ∧ (tr (e + 1)).h = (tr (c + d)).h ∧ (tr (e + 1)).nx = (tr (c + d)).nx
  | 0, _ => .inl ⟨rfl, rfl⟩
  | d + 1, hn => by
    obtain ⟨o, ho⟩ := op_at (ops := ops) (i := c + d) (by omega)
    rcases (X.step _ o ho).mem with h' | h'
    · rcases last_eff (c := c) d (by omega) with h | ⟨e, o, h1, h2, h3, h4, h5, h6, h7⟩
      · exact .inl ⟨h'.1.trans h.1, h'.2.trans h.2⟩
      · exact .inr ⟨e, o, h1, by omega, h3, h4, h5, h6.trans h'.1.symm, h7.trans h'.2.symm⟩
    · exact .inr ⟨c + d, o, by omega, by omega, ho, h'.1, h'.2, rfl, rfl⟩

theorem h_const {c c' : Nat} (h : c ≤ c') (hn : c' ≤ ops.length) (hw : ∀ i o, c ≤ i → i < c' → ops[i]? = some o → isE E o = false) : (tr c').h = (tr c).h ∧ (tr c').nx = (tr c).nx := by
  have := first_eff X (c := c) (c' - c) (by omega)
  rw [show c + (c' - c) = c' from by omega] at this
  rcases this with h | ⟨e, o, h1, h2, h3, h4, _⟩
  · exact h
  · have := hw e o h1 h2 h3
    rw [h4] at this; cases this
end

section
variable {P : Program} {E : Env}

/-- An allocation, in the model. -/
theorem alloc_run (K : Known E P) {t : TypeId} {n : Nat} {z : List V} (e : oAllocT E t n = .val (.p n 0) (.new z)) (μ : Mu) (w : World) :
    ∃ arr : Array Value, VL μ z arr.toList ∧ (Instr.alloc t true (.tuple #[])).run P w = .ok (.pointer (some ⟨w.heap.size, 0, none⟩)) (w.alloc (.cells arr t (0, 0))) := by
  unfold oAllocT at e
  split at e
  · rename_i i d hi
    split at e
    · rename_i z' hz
      obtain ⟨zv, h1, _, h3⟩ := zeroL_rel (w := w) (μ := μ) K hi hz
      unfold oAlloc at e
      rw [ifB_eq] at e
      split at e
      · injection e with e1 e2
        injection e2 with e2
        subst e2
        refine ⟨zv.cells, h3, ?_⟩
        simp only [Instr.alloc, Sem.run_bind, h1, Result.andThen_ok]
        simp [newVar, newRow]
      · cases e
    · cases e
  · cases e

variable {F : Rec R0} {ops : List Oper} {nt : Nat} {tr : Nat → Pt} {ptr : Nat → V} {nm : Nat → Nat} {recs : List Rc} {nx0 nx1 : Nat} {h0 hp : Heap} {μ0 : Mu} {w0 : World} {ds : List Deferred}

theorem stillV_congr {o : Op} {tm tm' : T V} {h : Heap} {nx : Nat} (hh : ∀ x ∈ o.operands, ev tm' x = ev tm x) : stillV E o tm' h nx = stillV E o tm h nx := opR_congr hh
theorem effectV_congr {o : Op} {tm tm' : T V} {h : Heap} {nx : Nat} (hh : ∀ x ∈ o.operands, ev tm' x = ev tm x) : effectV E F o tm' h nx = effectV E F o tm h nx := opR_congr hh
theorem stillV_any {o : Op} {tm : T V} {h h' : Heap} {nx nx' : Nat} (ho : clsP E o = true) : stillV E o tm h nx = stillV E o tm h' nx' := opR_still ho h' nx'

theorem JJ.step (K : Known E P) (hC : CallOK P F) (hS : SumOK E P) (X : Ctx E F ops nt tr ptr nm recs nx0 nx1 h0) {S : Nat → Prop} {a : Act} {w : World} {μ : Mu} {c : Nat} (J : JJ E ops nt tr nm hp nx0 h0 μ0 w0 ds S a w μ c)
    {p : Nat} {o : Oper} (ho : ops[p]? = some o) (hnS : ¬ S p) (hdep : ∀ e ∈ o.after, Region.binds .any e = true → S e.on) {Q : Exit → Act → World → Prop} {k : Act → World → Prop}
    (hk : ∀ a' w' μ' c', JJ E ops nt tr nm hp nx0 h0 μ0 w0 ds (fun i => S i ∨ i = p) a' w' μ' c' → k a' w') : wpOp P ⟨ops⟩ Q p k a w := by
  have hp' : p < ops.length := (List.getElem?_eq_some_iff.1 ho).1
  have clS' : Closed ops (fun i => S i ∨ i = p) := by
    intro j oj e hj hoj he hb
    rcases hj with hj | rfl
    · exact .inl (J.cl j oj e hj hoj he hb)
    · rw [ho] at hoj; injection hoj with hoj; subst hoj
      exact .inl (hdep e he hb)
  have anc : ∀ i, Anc ops i p → i ≠ p → S i := fun i hi hne => (hi _ clS' (.inr rfl)).resolve_right hne
  have desc : ∀ j, Anc ops p j → ¬ S j := fun j h hj => hnS (h S J.cl hj)
  have look : ∀ t, (∀ i oi, i ≠ p → ops[i]? = some oi → oi.dst = some t → (i < p → Anc ops i p) ∧ (p < i → Anc ops p i)) → VR μ (rd (tr p).tm t) (a.tmps.getD t undef) := by
    intro t ht
    obtain ⟨ct, hct, hw, hv⟩ := J.tmp t
    have : rd (tr p).tm t = rd (tr ct).tm t := by
      rcases Nat.le_total ct p with h | h
      · exact tm_const' X h (by omega) (fun i oi h1 h2 hoi hd => by
          have := (hw i oi hoi hd).1 (anc i ((ht i oi (by omega) hoi hd).1 h2) (by omega))
          omega)
      · exact (tm_const' X h hct (fun i oi h1 h2 hoi hd => by
          have hs := (hw i oi hoi hd).2 h2
          by_cases hip : i = p
          · subst hip; exact hnS hs
          · exact desc i ((ht i oi hip hoi hd).2 (by omega)) hs)).symm
    rw [this]; exact hv
  have hlook : ∀ t ∈ looks ops o, VR μ (rd (tr p).tm t) (a.tmps.getD t undef) := fun t ht => look t fun i oi hne hoi hd =>
    ⟨fun hlt => X.reg.tmp i p oi o hlt hoi ho (.inl (writesTo_look hd ht)), fun hlt => X.reg.tmp p i o oi hlt ho hoi (.inr (writesTo_look hd ht))⟩
  have hT := mask_TR (L := looks ops o) J.size hlook
  have hrd := mask_rd (tm := (tr p).tm) (nt := nt) (L := looks ops o)
  have hev := looks_ev hrd
  have newtmp : ∀ (v : V) (v' : Value) (μ' : Mu), (∀ i x, μ i = some x → μ' i = some x) → (tr (p + 1)).tm = putTv (tr p).tm nt o.dst v → VR μ' v v' →
      ∀ t, ∃ ct, ct ≤ ops.length ∧ (∀ i oi, ops[i]? = some oi → oi.dst = some t → ((S i ∨ i = p) ↔ i < ct)) ∧ VR μ' (rd (tr ct).tm t) ((a.put o.dst v').tmps.getD t undef) := by
    intro v v' μ' hm htm hv t
    by_cases hd : o.dst = some t
    · have hw' : ∀ i oi, i ≠ p → ops[i]? = some oi → oi.dst = some t → (i < p → Anc ops i p) ∧ (p < i → Anc ops p i) := fun i oi hne hoi hdi =>
        ⟨fun hlt => X.reg.tmp i p oi o hlt hoi ho (.inl (writesTo_dst hdi hd)), fun hlt => X.reg.tmp p i o oi hlt ho hoi (.inl (writesTo_dst hd hdi))⟩
      refine ⟨p + 1, hp', fun i oi hoi hdi => ?_, ?_⟩
      · by_cases hip : i = p
        · subst hip; exact ⟨fun _ => Nat.lt_succ_self _, fun _ => .inr rfl⟩
        · obtain ⟨q1, q2⟩ := hw' i oi hip hoi hdi
          constructor
          · rintro (hs | hs)
            · rcases Nat.lt_or_ge p i with h | h
              · exact absurd hs (desc i (q2 h))
              · omega
            · exact absurd hs hip
          · intro h
            exact .inl (anc i (q1 (by omega)) hip)
      · rw [htm, rd_putTv, getD_put, J.size]
        by_cases hlt : t < nt
        · rw [if_pos ⟨hd, hlt⟩, if_pos ⟨hd, hlt⟩]; exact hv
        · rw [if_neg (fun h => hlt h.2), if_neg (fun h => hlt h.2)]
          exact (look t hw').mono hm
    · obtain ⟨ct, h1, h2, h3⟩ := J.tmp t
      refine ⟨ct, h1, fun i oi hoi hdi => ?_, ?_⟩
      · have hip : i ≠ p := by
          intro h'; subst h'
          rw [ho] at hoi; injection hoi with hoi; subst hoi
          exact hd hdi
        rw [← h2 i oi hoi hdi]
        exact ⟨fun h => h.resolve_right hip, .inl⟩
      · rw [getD_put, if_neg (fun h => hd h.1)]
        exact h3.mono hm
  have fin : isE E o = false → ∀ v v' w' μ', (tr (p + 1)).tm = putTv (tr p).tm nt o.dst v → VR μ' v v' → G μ' (tr c).h (tr c).nx w' → Ext μ (tr c).h (tr c).nx w μ' (tr c).h (tr c).nx w' → k (a.put o.dst v') w' := by
    intro hE v v' w' μ' htm hv hg hx
    refine hk _ _ μ' c ⟨clS', by rw [put_size]; exact J.size, by rw [put_defers]; exact J.dfs, newtmp v v' μ' hx.mu htm hv, J.cle, fun i oi hoi hEi => ?_, hg, J.ext.trans hx, fun i oi hoi ha hn => ?_⟩
    · have hip : i ≠ p := by
        intro h'; subst h'
        rw [ho] at hoi; injection hoi with hoi; subst hoi
        rw [hE] at hEi; cases hEi
      rw [← J.hcut i oi hoi hEi]
      exact ⟨fun h => h.resolve_right hip, .inl⟩
    · obtain ⟨l1, l2, l3⟩ := J.late i oi hoi ha (fun h => hn (.inl h))
      exact ⟨hx.old _ l2 l1, l2, l3⟩
  have hEcut : isE E o = true → (tr p).h = (tr c).h ∧ (tr p).nx = (tr c).nx := by
    intro hE
    rcases Nat.le_total c p with h | h
    · exact h_const X h (by omega) (fun i oi h1 h2 hoi => by
        cases hEi : isE E oi with
        | false => rfl
        | true =>
          have := (J.hcut i oi hoi hEi).1 (anc i (X.reg.eff i p oi o h2 hoi ho hEi hE) (by omega))
          omega)
    · have := h_const X h J.cle (fun i oi h1 h2 hoi => by
        cases hEi : isE E oi with
        | false => rfl
        | true =>
          have hs := (J.hcut i oi hoi hEi).2 h2
          by_cases hip : i = p
          · subst hip; exact absurd hs hnS
          · exact absurd hs (desc i (X.reg.eff p i o oi (by omega) ho hoi hE hEi)))
      exact ⟨this.1.symm, this.2.symm⟩
  have finE : isE E o = true → ∀ v v' w' μ', (tr (p + 1)).tm = putTv (tr p).tm nt o.dst v → VR μ' v v' → G μ' (tr (p + 1)).h (tr (p + 1)).nx w' → Ext μ (tr c).h (tr c).nx w μ' (tr (p + 1)).h (tr (p + 1)).nx w' → k (a.put o.dst v') w' := by
    intro hE v v' w' μ' htm hv hg hx
    refine hk _ _ μ' (p + 1) ⟨clS', by rw [put_size]; exact J.size, by rw [put_defers]; exact J.dfs, newtmp v v' μ' hx.mu htm hv, hp', fun i oi hoi hEi => ?_, hg, J.ext.trans hx, fun i oi hoi ha hn => ?_⟩
    · by_cases hip : i = p
      · subst hip; exact ⟨fun _ => Nat.lt_succ_self _, fun _ => .inr rfl⟩
      · constructor
        · rintro (hs | hs)
          · rcases Nat.lt_or_ge p i with h | h
            · exact absurd hs (desc i (X.reg.eff p i o oi h ho hoi hE hEi))
            · omega
          · exact absurd hs hip
        · intro h
          exact .inl (anc i (X.reg.eff i p oi o (by omega) hoi ho hEi hE) hip)
    · obtain ⟨l1, l2, l3⟩ := J.late i oi hoi ha (fun h => hn (.inl h))
      exact ⟨hx.old _ l2 l1, Nat.lt_of_lt_of_le l2 hx.nxle, (hx.unt _ l2 l1).trans l3⟩
  unfold wpOp
  have hoA : (⟨ops⟩ : Array Oper)[p]? = some o := by simpa using ho
  simp only [hoA]
  cases X.step p o ho with
  | skip ha hg hkn ht hh hn =>
    have hw := guard_no (o := o) hT (by rw [looks_guardOk hrd]; exact hg) (by rw [looks_guardKn hrd]; exact hkn)
    rw [if_neg (by rw [hw]; exact Bool.false_ne_true)]
    cases hE : isE E o with
    | false => exact fin hE undefV undef w μ ht VR.undef J.g (Ext.refl _ _ _ _)
    | true =>
      obtain ⟨q1, q2⟩ := hEcut hE
      refine finE hE undefV undef w μ ht VR.undef ?_ ?_
      · rw [hh, hn, q1, q2]; exact J.g
      · rw [hh, hn, q1, q2]; exact Ext.refl _ _ _ _
  | still ha hg v hc hv ht hh hn =>
    have hw := guard_yes (o := o) hT (by rw [looks_guardOk hrd]; exact hg)
    rw [if_pos hw]
    have hE : isE E o = false := by
      rcases hc with h | ⟨h1, h2, _⟩
      · exact isE_P ha h
      · exact isE_R ha h1 h2
    have hst : stillV E o.op (tr p).tm (tr c).h (tr c).nx = some v := by
      rcases hc with h | ⟨h1, h2, hrec⟩
      · rw [stillV_any h (h' := (tr p).h) (nx' := (tr p).nx)]; exact hv
      · rcases Nat.le_total c p with h | h
        · have := first_eff X (c := c) (p - c) (by omega)
          rw [show c + (p - c) = p from by omega] at this
          rcases this with ⟨q1, q2⟩ | ⟨e, oe, q1, q2, q3, q4, q5, q6, q7⟩
          · rw [← q1, ← q2]; exact hv
          · rcases X.chk p o.op (tr p).tm v e _ _ _ _ hrec q5 with (h' | h') | h'
            · have := h'.le X.reg; omega
            · have := (J.hcut e oe q3 q4).1 (anc e h' (by omega)); omega
            · rw [← q6, ← q7]; exact h'.1
        · have := last_eff X (c := p) (c - p) (by have := J.cle; omega)
          rw [show p + (c - p) = c from by omega] at this
          rcases this with ⟨q1, q2⟩ | ⟨e, oe, q1, q2, q3, q4, q5, q6, q7⟩
          · rw [q1, q2]; exact hv
          · have hs := (J.hcut e oe q3 q4).2 q2
            rcases X.chk p o.op (tr p).tm v e _ _ _ _ hrec q5 with (h' | h') | h'
            · exact absurd hs (desc e h')
            · have := h'.le X.reg
              have hep : e = p := by omega
              subst hep
              exact absurd hs hnS
            · rw [← q6, ← q7]; exact h'.2
    refine .inl (stillV_wp K (by rw [stillV_congr hev]; exact hst) hT J.g fun v' w' μ' r1 r2 r3 => ?_)
    exact fin hE v v' w' μ' ht r1 r2 r3
  | eff ha hg v hc hr hv he ht =>
    have hw := guard_yes (o := o) hT (by rw [looks_guardOk hrd]; exact hg)
    rw [if_pos hw]
    have hE := isE_of ha hc hr
    obtain ⟨q1, q2⟩ := hEcut hE
    rw [q1, q2] at hv
    refine .inl (effectV_wp K hC hS (by rw [effectV_congr hev]; exact hv) hT J.g fun v' w' μ' r1 r2 r3 => ?_)
    exact finE hE v v' w' μ' ht r1 r2 r3
  | alloc ha ht hh hn =>
    obtain ⟨n1, n2, n3, t, z, n4, n5, n6⟩ := X.named p o ho ha
    obtain ⟨l1, l2, l3⟩ := J.late p o ho ha hnS
    have hgd : o.guard = none := by
      unfold isA at ha
      split at ha
      · assumption
      · cases ha
    have hw : Region.wanted o (yielded ⟨ops⟩ a.tmps) = true := by simp [Region.wanted, hgd]
    rw [if_pos hw]
    obtain ⟨arr, r1, r2⟩ := alloc_run (P := P) K n5 μ w
    have hmo := upd_mono (w.heap.size, arr.size) l1
    have hrun : (execOp a.eval o).run P w = .ok (.value (.pointer (some ⟨w.heap.size, 0, none⟩))) (w.alloc (.cells arr t (0, 0))) := by
      obtain ⟨dst, op, ty, pos, after, gd⟩ := o
      have n4 : op = .alloc t := n4
      subst n4
      show (do pure (Next.value (← Instr.alloc t true (.tuple #[]))) : Sem Next).run P w = _
      rw [run_v, r2]; rfl
    refine .inl ?_
    unfold Oper.wp
    rw [hrun]
    have hg' := J.g.late (N := arr.size) l2 l1 (l3.trans n6) (.cells arr t (0, 0)) ⟨arr, t, 0, 0, rfl, rfl, by rw [r1.length]; exact Nat.le_refl _, .inl rfl, fun i hi => by
      obtain ⟨v', h1, h2⟩ := r1.get i z[i] (List.getElem?_eq_getElem hi)
      refine ⟨v', by simpa using h1, ?_⟩
      rw [rd_putL, if_pos (by omega), Nat.sub_zero, List.getElem?_eq_getElem hi]
      exact h2.mono hmo⟩
    have hx' := J.ext.late (N := arr.size) n2 l1 (.cells arr t (0, 0))
    refine hk _ _ _ c ⟨clS', by rw [put_size]; exact J.size, by rw [put_defers]; exact J.dfs, newtmp (ptr p) _ _ hmo ht (by rw [n1]; exact .p 0 (upd_same _ _ _)), J.cle, fun i oi hoi hEi => ?_, hg', hx', fun i oi hoi hai hn' => ?_⟩
    · have hip : i ≠ p := by
        intro h'; subst h'
        rw [ho] at hoi; injection hoi with hoi; subst hoi
        rw [isE_A ha] at hEi; cases hEi
      rw [← J.hcut i oi hoi hEi]
      exact ⟨fun h => h.resolve_right hip, .inl⟩
    · obtain ⟨m1, m2, m3⟩ := J.late i oi hoi hai (fun h => hn' (.inl h))
      refine ⟨?_, m2, m3⟩
      rw [upd_ne]; exact m1
      intro h'
      exact hn' (.inr (X.inj i p oi o hoi ho hai ha h'))
end
end Go.AM
