/- THE ABSTRACT MACHINE, part 28: one operation of a drawn region, at any time when it may run. -/
import Derived.Test.YtghphioodlkcdaaGreatDoorAm27
namespace Go.AM
open Go

theorem memN_spec {t : Nat} {l : List Nat} (h : t ∈ l) : memN t l = true := by
  induction l with
  | nil => cases h
  | cons x r ih =>
    show ifB (Nat.beq t x) true (memN t r) = true
    rw [ifB_eq]
    split
    · rfl
    · rename_i hx
      cases h with
      | head => exact absurd (Nat.beq_refl t) hx
      | tail _ h => exact ih h

theorem writesTo_look {ops : List Oper} {x y : Oper} {d : Tmp} (hd : x.dst = some d) (h : d ∈ looks ops y) : writesTo ops x y = true := by
  simp only [writesTo, hd, memN_spec h]
theorem writesTo_dst {ops : List Oper} {x y : Oper} {d : Tmp} (hd : x.dst = some d) (h : y.dst = some d) : writesTo ops x y = true := by
  simp only [writesTo, hd, h]
  rw [ifB_eq]
  split
  · rfl
  · exact Nat.beq_refl d

theorem tmpsOf_mem {l : List Operand} {t : Tmp} (h : Operand.tmp t ∈ l) : t ∈ tmpsOf l := by
  induction l with
  | nil => cases h
  | cons x r ih =>
    cases h with
    | head => exact .head _
    | tail _ h =>
      have := ih h
      cases x <;> first | exact .tail _ this | exact this

theorem looks_op {ops : List Oper} {o : Oper} {t : Tmp} (h : Operand.tmp t ∈ o.op.operands) : t ∈ looks ops o := by
  unfold looks
  rw [appL_eq]
  exact List.mem_append_left _ (tmpsOf_mem (by simpa using h))

theorem looks_guard {ops : List Oper} {o og : Oper} {g : Nat} {b : Bool} {d : Tmp} (h : o.guard = some (g, b)) (hg : ops[g]? = some og) (hd : og.dst = some d) : d ∈ looks ops o := by
  unfold looks
  rw [appL_eq, h]
  simp only [nthL_eq, hg, hd]
  simp

section
variable {tm tm' : T V} {ops : List Oper} {o : Oper} (hh : ∀ t ∈ looks ops o, rd tm' t = rd tm t)
include hh

theorem looks_ev (x : Operand) (hx : x ∈ o.op.operands) : ev tm' x = ev tm x := by
  cases x with
  | tmp t => exact hh t (looks_op hx)
  | const v => rfl
  | global g => rfl
  | func f => rfl

theorem looks_guardOk : guardOk ops tm' o.guard = guardOk ops tm o.guard := by
  cases hg : o.guard with
  | none => rfl
  | some p =>
    obtain ⟨g, b⟩ := p
    show guardB ops tm' g b = guardB ops tm g b
    unfold guardB
    rw [nthL_eq]
    split
    · rename_i og hog
      split
      · rename_i d hd
        rw [hh d (looks_guard hg hog hd)]
      · rfl
    · rfl

theorem looks_guardKn : guardKn ops tm' o.guard = guardKn ops tm o.guard := by
  cases hg : o.guard with
  | none => rfl
  | some p =>
    obtain ⟨g, b⟩ := p
    show (match nthL ops g with | some o => (match o.dst with | some d => isKnown (rd tm' d) | none => true) | none => true) = (match nthL ops g with | some o => (match o.dst with | some d => isKnown (rd tm d) | none => true) | none => true)
    rw [nthL_eq]
    split
    · rename_i og hog
      split
      · rename_i d hd
        rw [hh d (looks_guard hg hog hd)]
      · rfl
    · rfl
end

/-- Temporaries of which only some are known. -/
noncomputable def maskT (tm : T V) (L : List Nat) (M : Nat) : T V := putL .e ((List.range M).map fun t => if t ∈ L then rd tm t else .junk) 0

theorem rd_maskT {tm : T V} {L : List Nat} {M t : Nat} : rd (maskT tm L M) t = if t < M then (if t ∈ L then rd tm t else .junk) else undefV := by
  unfold maskT
  rw [rd_putL]
  simp only [List.length_map, List.length_range, Nat.zero_add, Nat.zero_le, true_and, Nat.sub_zero]
  by_cases h : t < M
  · rw [if_pos h, if_pos h, List.getElem?_map, List.getElem?_range h]; rfl
  · rw [if_neg h, if_neg h]
    unfold rd
    rw [get_e]; rfl

/-- More than all of a list, and than a number. -/
def above (n : Nat) : List Nat → Nat
  | [] => n
  | x :: l => max (x + 1) (above n l)
theorem above_le (n : Nat) : ∀ l : List Nat, n ≤ above n l
  | [] => Nat.le_refl _
  | _ :: l => Nat.le_trans (above_le n l) (Nat.le_max_right _ _)
theorem above_mem (n : Nat) : ∀ (l : List Nat) (x : Nat), x ∈ l → x < above n l
  | y :: l, x, h => by
    show x < max (y + 1) (above n l)
    cases h with
    | head => exact Nat.lt_of_lt_of_le (Nat.lt_succ_self _) (Nat.le_max_left _ _)
    | tail _ h => exact Nat.lt_of_lt_of_le (above_mem n l x h) (Nat.le_max_right _ _)

theorem mask_TR {μ : Mu} {tm : T V} {a : Act} {nt : Nat} {L : List Nat} (hn : a.tmps.size = nt) (hh : ∀ t ∈ L, VR μ (rd tm t) (a.tmps.getD t undef)) : TR μ (maskT tm L (above nt L)) a.tmps := by
  intro t
  rw [rd_maskT]
  split
  · split
    · rename_i h; exact hh t h
    · exact .junk _
  · rename_i h
    have : a.tmps.size ≤ t := by rw [hn]; have := above_le nt L; omega
    rw [Array.getD_eq_getD_getElem?, Array.getElem?_eq_none this]
    exact VR.undef

theorem mask_rd {tm : T V} {nt : Nat} {L : List Nat} : ∀ t ∈ L, rd (maskT tm L (above nt L)) t = rd tm t := by
  intro t h
  rw [rd_maskT, if_pos (above_mem nt L t h), if_pos h]

theorem rd_putTv {tm : T V} {nt : Nat} {d : Option Tmp} {v : V} {t : Nat} : rd (putTv tm nt d v) t = if d = some t ∧ t < nt then v else rd tm t := by
  cases d with
  | none => simp [putTv]
  | some d =>
    show rd (ifB (Nat.ble (Nat.succ d) nt) (tm.put d (some v)) tm) t = _
    rw [ifB_eq]
    split
    · rename_i h
      have h := ble_true.1 h
      rw [rd_put]
      by_cases ht : t = d
      · subst ht; rw [if_pos rfl, if_pos ⟨rfl, h⟩]
      · rw [if_neg ht, if_neg]
        rintro ⟨h1, _⟩
        injection h1 with h1
        exact ht h1.symm
    · rename_i h
      have h : ¬ d < nt := fun h' => h (ble_true.2 h')
      rw [if_neg]
      rintro ⟨h1, h2⟩
      injection h1 with h1
      subst h1
      exact h h2

theorem getD_put {a : Act} {d : Option Tmp} {v : Value} {t : Nat} : (a.put d v).tmps.getD t undef = if d = some t ∧ t < a.tmps.size then v else a.tmps.getD t undef := by
  cases d with
  | none => simp [Act.put]
  | some d =>
    show (a.tmps.setIfInBounds d v).getD t undef = _
    by_cases ht : d = t
    · subst ht
      by_cases h : d < a.tmps.size
      · rw [if_pos ⟨rfl, h⟩, Array.getD_eq_getD_getElem?, Array.getElem?_setIfInBounds_self_of_lt h]; rfl
      · rw [if_neg (fun h' => h h'.2), Array.getD_eq_getD_getElem?, Array.getD_eq_getD_getElem?, Array.getElem?_eq_none (by simpa using h), Array.getElem?_eq_none (by simpa using h)]
    · rw [if_neg, Array.getD_eq_getD_getElem?, Array.getElem?_setIfInBounds_ne ht, ← Array.getD_eq_getD_getElem?]
      rintro ⟨h1, _⟩
      injection h1 with h1
      exact ht h1

theorem put_size (a : Act) (d : Option Tmp) (v : Value) : (a.put d v).tmps.size = a.tmps.size := by
  cases d with
  | none => rfl
  | some d => simp [Act.put]

theorem put_defers (a : Act) (d : Option Tmp) (v : Value) : (a.put d v).defers = a.defers := by
  cases d <;> rfl

section
variable {P : Program} {E : Env} {F : Rec R0}

/-- A call, wherever it stands. -/
theorem callS_calls (hC : CallOK P F) (hS : SumOK E P) {f : FuncId} {args : List V} {h h' : Heap} {nx nx' : Nat} {en : AEnd} (e : callS E F f args h nx (fun e h nx => some (e, h, nx)) = some (en, h', nx'))
    {μ : Mu} {args' : List Value} {w : World} (ha : VL μ args args') (g : G μ h nx w) :
    (∃ v', (callFunc f ⟨args'⟩).run P w = .ok (.value v') w ∧ NR μ en (.returned v') ∧ G μ h' nx' w ∧ Ext μ h nx w μ h' nx' w) ∨
    ((callFunc f ⟨args'⟩).run P w = .ok (.enter f ⟨args'⟩) w ∧ Calls P f ⟨args'⟩ w fun en' w' => ∃ μ', NR μ' en en' ∧ G μ' h' nx' w' ∧ Ext μ h nx w μ' h' nx' w') := by
  unfold callS at e
  split at e
  · rename_i s hs
    split at e
    · rename_i v hv
      rw [fH_eq] at e
      injection e with e
      injection e with e1 e2
      injection e2 with e2 e3
      subst e1 e2 e3
      rcases hS f s hs args h v hv μ nx w args' ha g with ⟨v', h1, h2⟩ | ⟨h1, h2⟩
      · exact .inl ⟨v', h1, .ret h2, g, Ext.refl _ _ _ _⟩
      · exact .inr ⟨h1 _ _, h2.mono fun en' w' ⟨v', μ', q1, q2, q3, q4⟩ => ⟨μ', by rw [q1]; exact .ret q2, q3, q4⟩⟩
    · cases e
  · obtain ⟨h1, h2⟩ := hC f args none h nx _ _ e
    refine .inr ⟨h1 _ _, fun cs => ?_⟩
    obtain ⟨e1, up1, hh, nn, q1, en', u', w', μ', fr, q2, q3, q4, q5, q6, q7, q8, q9, q10⟩ := h2 μ args' none w default cs ha .none g
    injection q1 with q1
    injection q1 with a1 a2
    injection a2 with a2 a3
    subst a1 a2 a3
    cases u' with
    | some u' => cases q8
    | none =>
      refine ⟨en', w', fr, ⟨μ', q6, q9, q10⟩, ?_, q3, ?_⟩
      · cases q6 <;> exact q2
      · cases q6 with
        | ret hv =>
          obtain ⟨a, b, c⟩ := q5
          exact ⟨a, b, q4, c⟩
        | pan hc => exact q5

/-- An operation without an effect, in the model. -/
theorem stillV_wp (K : Known E P) {o : Oper} {tm : T V} {h : Heap} {nx : Nat} {v : V} (e : stillV E o.op tm h nx = some v) {μ : Mu} {a : Act} {w : World} (ht : TR μ tm a.tmps) (g : G μ h nx w) {k : Act → World → Prop} {Q : Exit → Act → World → Prop}
    (hk : ∀ v' w' μ', VR μ' v v' → G μ' h nx w' → Ext μ h nx w μ' h nx w' → k (a.put o.dst v') w') : o.wp P a w k Q := by
  unfold stillV at e
  unfold Oper.wp
  rcases opR_sim (P := P) (w := w) K g ht e with ⟨v1, e1, v', hr, hv⟩ | ⟨res, e1, hres⟩
  · injection e1 with e1
    subst e1
    rw [hr]
    exact hk v' w μ hv g (Ext.refl _ _ _ _)
  · cases res with
    | val v1 f =>
      cases f <;> first | (cases e1; done) | skip
      have e1 : fH v1 some = some v := e1
      rw [fH_eq] at e1
      injection e1 with e1
      subst e1
      obtain ⟨nxt, w', μ', hr, hn, hg', hx⟩ := hres h nx ⟨rfl, rfl⟩
      rw [hr]
      cases nxt with
      | value v' => exact hk v' w' μ' hn hg' hx
      | skip =>
        have hn : v1 = undefV := hn
        subst hn
        exact hk undef w' μ' VR.undef hg' hx
      | _ => exact hn.elim
    | _ => cases e1

/-- An operation with an effect, in the model. -/
theorem effectV_wp (K : Known E P) (hC : CallOK P F) (hS : SumOK E P) {o : Oper} {tm : T V} {h h' : Heap} {nx nx' : Nat} {v : V} (e : effectV E F o.op tm h nx = some (v, h', nx')) {μ : Mu} {a : Act} {w : World} (ht : TR μ tm a.tmps) (g : G μ h nx w) {k : Act → World → Prop} {Q : Exit → Act → World → Prop}
    (hk : ∀ v' w' μ', VR μ' v v' → G μ' h' nx' w' → Ext μ h nx w μ' h' nx' w' → k (a.put o.dst v') w') : o.wp P a w k Q := by
  unfold effectV at e
  unfold Oper.wp
  rcases opR_sim (P := P) (w := w) K g ht e with ⟨v1, e1, v', hr, hv⟩ | ⟨res, e1, hres⟩
  · injection e1 with e1
    injection e1 with e1 e2
    injection e2 with e2 e3
    subst e1 e2 e3
    rw [hr]
    exact hk v' w μ hv g (Ext.refl _ _ _ _)
  · cases res with
    | val v1 f =>
      have e1 : fH v1 (fun v => effK f h nx (fun h' nx' => some (v, h', nx'))) = some (v, h', nx') := e1
      rw [fH_eq] at e1
      obtain ⟨h2, nx2, e2, hE⟩ := effK_some e1
      injection e2 with e2
      injection e2 with e2 e3
      injection e3 with e3 e4
      subst e2 e3 e4
      obtain ⟨nxt, w', μ', hr, hn, hg', hx⟩ := hres h2 nx2 hE
      rw [hr]
      cases nxt with
      | value v' => exact hk v' w' μ' hn hg' hx
      | skip =>
        have hn : v1 = undefV := hn
        subst hn
        exact hk undef w' μ' VR.undef hg' hx
      | _ => exact hn.elim
    | call f args =>
      have e1 : (match callS E F f args h nx (fun e h' nx' => some (e, h', nx')) with
        | some (.ret v, h', nx') => some (v, h', nx')
        | _ => none) = some (v, h', nx') := e1
      split at e1
      · rename_i v1 h1 n1 hcall
        injection e1 with e1
        injection e1 with e1 e2
        injection e2 with e2 e3
        subst e1 e2 e3
        obtain ⟨args', hr, hva⟩ := hres
        rcases callS_calls hC hS hcall hva g with ⟨v', q1, q2, q3, q4⟩ | ⟨q1, q2⟩
        · rw [hr, q1]
          cases q2 with | ret hv => exact hk v' w μ hv q3 q4
        · rw [hr, q1]
          refine q2.mono fun en' w' ⟨μ', r1, r2, r3⟩ => ?_
          cases r1 with | ret hv => exact hk _ w' μ' hv r2 r3
      · cases e1
    | _ => cases e1
end
end Go.AM
