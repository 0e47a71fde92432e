/- THE ABSTRACT MACHINE, part 12: aggregates that are built, and new memory. -/
import Derived.Test.YtghphioodlkcdaaGreatDoorAm11
namespace Go.AM
open Go

theorem setMany_get (off : Nat) : ∀ (cs : List Value) (j : Nat) (a : Array Value) (i : Nat), off + j + cs.length ≤ a.size →
    (List.foldl (fun (b : Array Value) (x : Value × Nat) => b.setIfInBounds (off + x.2) x.1) a (cs.zipIdx j))[i]? = if off + j ≤ i ∧ i < off + j + cs.length then cs[i - (off + j)]? else a[i]?
  | [], j, a, i, _ => by rw [if_neg (by simp only [List.length_nil]; omega)]; rfl
  | c :: cs, j, a, i, h => by
    simp only [List.length_cons] at h
    simp only [List.zipIdx_cons, List.foldl_cons]
    rw [setMany_get off cs (j + 1) _ i (by simp; omega)]
    simp only [List.length_cons]
    by_cases e : i = off + j
    · subst e
      rw [if_neg (by omega), if_pos (by omega), Nat.sub_self]
      simp [show off + j < a.size from by omega]
    · by_cases e2 : off + (j + 1) ≤ i ∧ i < off + (j + 1) + cs.length
      · rw [if_pos e2, if_pos (by omega)]
        obtain ⟨m, rfl⟩ : ∃ m, i = off + (j + 1) + m := ⟨i - (off + (j + 1)), by omega⟩
        rw [show off + (j + 1) + m - (off + (j + 1)) = m from by omega, show off + (j + 1) + m - (off + j) = m + 1 from by omega, List.getElem?_cons_succ]
      · rw [if_neg e2, if_neg (by omega), Array.getElem?_setIfInBounds, if_neg (fun h => e h.symm)]

theorem setMany_size (off : Nat) : ∀ (cs : List (Value × Nat)) (a : Array Value), (List.foldl (fun (b : Array Value) (x : Value × Nat) => b.setIfInBounds (off + x.2) x.1) a cs).size = a.size
  | [], _ => rfl
  | c :: cs, a => by rw [List.foldl_cons, setMany_size off cs]; simp

theorem splice_length (l : List V) (off : Nat) (m : List V) (h : off + m.length ≤ l.length) : (splice l off m).length = l.length := by
  simp only [splice, appL_eq, takeL_eq, dropL_eq, lenL_eq, List.length_append, List.length_take, List.length_drop]
  show min off l.length + (m.length + (l.length - (off + m.length))) = l.length
  omega

theorem splice_get (l : List V) (off : Nat) (m : List V) (h : off + m.length ≤ l.length) (i : Nat) : (splice l off m)[i]? = if off ≤ i ∧ i < off + m.length then m[i - off]? else l[i]? := by
  simp only [splice, appL_eq, takeL_eq, dropL_eq, lenL_eq]
  have hl : (l.take off).length = off := by rw [List.length_take]; omega
  by_cases h1 : i < off
  · rw [if_neg (by omega), List.getElem?_append_left (by omega), List.getElem?_take_of_lt h1]
  · rw [List.getElem?_append_right (by omega), hl]
    by_cases h2 : i < off + m.length
    · rw [if_pos (by omega), List.getElem?_append_left (by omega)]
    · rw [if_neg (by omega), List.getElem?_append_right (by omega), List.getElem?_drop]
      congr 1
      show off + m.length + (i - off - m.length) = i
      omega

section
variable {P : Program} {μ : Mu}

inductive PR (μ : Mu) : List (Nat × V) → List (Nat × Value) → Prop where
  | nil : PR μ [] []
  | cons {i : Nat} {v : V} {v' : Value} {l : List (Nat × V)} {l' : List (Nat × Value)} (h : VR μ v v') (t : PR μ l l') : PR μ ((i, v) :: l) ((i, v') :: l')

theorem partsV_rel {tm : T V} {a : Act} (ht : TR μ tm a.tmps) (l : Array (Nat × Operand)) : PR μ (partsV tm l) (l.map fun x => (x.1, a.eval x.2)).toList := by
  rw [Array.toList_map]
  unfold partsV
  rw [mapL_eq]
  generalize l.toList = m
  induction m with
  | nil => exact .nil
  | cons x r ih => exact .cons (ev_rel ht x.2) ih

theorem cells_ne_junk {v : V} (h : cellsOk (cellsL v) = true) : v ≠ .junk := by
  intro e; subst e; cases h

theorem fillL_sim {place : Nat → Option (Nat × Nat)} {place' : Nat → Option (Nat × Nat)} (hp : ∀ i x, place i = some x → place' i = some x) :
    ∀ {parts : List (Nat × V)} {parts' : List (Nat × Value)} {l res : List V} {cells : Array Value}, PR μ parts parts' → (∀ p ∈ parts, p.2 ≠ .junk) → VL μ l cells.toList → fillL place parts l = some res →
      ∃ c', Instr.fill place' cells parts' = some c' ∧ VL μ res c'.toList
  | [], _, l, res, cells, h, _, hl, e => by
    cases h
    have e : some l = some res := e
    injection e with e; subst e
    exact ⟨cells, rfl, hl⟩
  | (i, v) :: parts, _, l, res, cells, h, hj, hl, e => by
    cases h with | @cons _ _ v' _ rest' hv ht =>
    have e : (match place i with
      | some (off, size) => ifB (Nat.beq (lenL (cellsL v)) size) (ifB (Nat.ble (Nat.add off size) (lenL l)) (fHs (splice l off (cellsL v)) (fun l => fillL place parts l)) none) none
      | none => none) = some res := e
    split at e
    · rename_i off size hpl
      obtain ⟨h1, e⟩ := ifB_none e
      obtain ⟨h2, e⟩ := ifB_none e
      rw [fHs_eq] at e
      have h1 := beq_true.1 h1
      have h2 := ble_true.1 h2
      rw [lenL_eq] at h1 h2
      have h2 : off + size ≤ l.length := h2
      have hc := cellsL_rel hv (hj (i, v) (by simp))
      have hlen := hc.length
      have hll := hl.length
      have hsz : v'.cells.size = size := by rw [← h1, hlen]; rfl
      have hcs : cells.size = l.length := by rw [hll]; rfl
      have hrel : VL μ (splice l off (cellsL v)) (List.foldl (fun (b : Array Value) (x : Value × Nat) => b.setIfInBounds (off + x.2) x.1) cells (v'.cells.toList.zipIdx)).toList := by
        refine VL.of_get ?_ ?_
        · rw [splice_length _ _ _ (by omega)]
          have := setMany_size off v'.cells.toList.zipIdx cells
          show l.length = Array.size _
          rw [this, hcs]
        · intro j x x' ex ex'
          rw [splice_get _ _ _ (by omega)] at ex
          rw [Array.getElem?_toList, setMany_get off _ 0 cells j (by simp; omega)] at ex'
          simp only [Nat.add_zero, Array.length_toList] at ex'
          by_cases hb : off ≤ j ∧ j < off + size
          · rw [if_pos (by omega)] at ex
            rw [if_pos (by omega)] at ex'
            obtain ⟨u, hu, hr⟩ := hc.get _ _ ex
            rw [ex'] at hu; injection hu with hu; subst hu; exact hr
          · rw [if_neg (by omega)] at ex
            rw [if_neg (by omega)] at ex'
            obtain ⟨u, hu, hr⟩ := hl.get _ _ ex
            rw [Array.getElem?_toList] at hu
            rw [ex'] at hu; injection hu with hu; subst hu; exact hr
      obtain ⟨c', hf, hr⟩ := fillL_sim hp ht (fun p hm => hj p (by simp [hm])) hrel e
      refine ⟨c', ?_, hr⟩
      have hz : v'.cells.zipIdx.foldl (fun (cs : Array Value) (x : Value × Nat) => match x with | (c, j) => cs.setIfInBounds (off + j) c) cells = List.foldl (fun (b : Array Value) (x : Value × Nat) => b.setIfInBounds (off + x.2) x.1) cells (v'.cells.toList.zipIdx) := by
        rw [← Array.foldl_toList, Array.toList_zipIdx]
      simp only [Instr.fill, hp i _ hpl]
      rw [if_neg, hz]
      · exact hf
      · simp only [hsz, ne_eq, not_true_eq_false, decide_false, Bool.false_or, decide_eq_true_eq]; omega
    · cases e
end

section
variable {R : Type} {r : R} {P : Program} {μ : Mu} {w : World} {E : Env} (K : Known E P)
include K

theorem zeroL_rel {t : TypeId} {i : TypeInfo} {d : TypeDesc} {z : List V} (ht : E.ty.get t = some (i, d)) (hz : zeroL i = some z) : ∃ v, (zeroValue t).run P w = .ok v w ∧ i.zero = some v ∧ VL μ z v.cells.toList := by
  obtain ⟨h1, _⟩ := K.ty t i d ht
  unfold zeroL at hz
  split at hz
  · rename_i l hl
    injection hz with hz; subst hz
    exact ⟨_, by simp [zeroValue, run_info h1, hl], hl, VL.ofVal l⟩
  · rename_i v hn hv
    injection hz with hz; subst hz
    refine ⟨v, by simp [zeroValue, run_info h1, hv], hv, ?_⟩
    have : v.cells.toList = [v] := by
      cases v <;> first | rfl | (rename_i a; obtain ⟨l⟩ := a; exact absurd rfl (hn l))
    rw [this]; exact .cons (VR.ofVal v) .nil
  · cases hz

theorem allTy_info : ∀ {fs : List Field}, allTy E fs = true → ∀ f ∈ fs, ∃ i, P.info? f.type = some i
  | [], _, f, hf => by cases hf
  | g :: fs, h, f, hf => by
    have h : Option.rec (motive := fun _ => Bool) false (fun _ => allTy E fs) (E.ty.get g.type) = true := h
    cases hg : E.ty.get g.type with
    | none => rw [hg] at h; cases h
    | some x =>
      rw [hg] at h
      cases hf with
      | head => exact ⟨x.1, (K.ty _ x.1 x.2 hg).1⟩
      | tail _ hm => exact allTy_info (fs := fs) h f hm

omit K in
theorem places_run {fs : List Field} (h : ∀ f ∈ fs, ∃ i, P.info? f.type = some i) :
    (List.mapM (fun f => do pure (f.offset, ← Go.sizeOf f.type)) fs : Sem (List (Nat × Nat))).run P w = .ok (fs.map fun f => (f.offset, ((P.info? f.type).map (·.size)).getD 0)) w := by
  induction fs with
  | nil => rfl
  | cons f fs ih =>
    obtain ⟨i, hi⟩ := h f (by simp)
    rw [List.mapM_cons]
    simp only [Sem.run_bind, run_size hi, Result.andThen_ok, Sem.run_pure, ih fun g hg => h g (by simp [hg]), List.map_cons, hi, Option.map_some, Option.getD_some]

omit K in
theorem okParts_known : ∀ {l : List (Nat × V)}, okParts l = true → ∀ p ∈ l, p.2 ≠ .junk
  | [], _, p, hp => by cases hp
  | q :: l, h, p, hp => by
    obtain ⟨h1, h2⟩ : isKnown q.2 = true ∧ okParts l = true := by
      have h : ifB (isKnown q.2) (okParts l) false = true := h
      cases hk : isKnown q.2 with
      | false => rw [hk] at h; cases h
      | true => rw [hk] at h; exact ⟨rfl, h⟩
    cases hp with
    | head => intro e; rw [e] at h1; cases h1
    | tail _ hm => exact okParts_known h2 p hm

/-- Parts of a struct or an array. -/
theorem buildK_sim {t : TypeId} {parts : List (Nat × V)} {parts' : List (Nat × Value)} {g : V → Option R} (hp : PR μ parts parts') (e : buildK E t parts g = some r) :
    ∃ v, g v = some r ∧ Val P μ w (Instr.build t parts'.toArray) v := by
  obtain ⟨hok, e⟩ := ifB_none e
  have hj := okParts_known hok
  unfold buildP at e
  split at e
  · rename_i i hi
    obtain ⟨i, d⟩ := i
    obtain ⟨hinf, hu⟩ := K.ty t i d hi
    split at e
    · rename_i z hz
      obtain ⟨zv, hzr, _, hzl⟩ := zeroL_rel (w := w) (μ := μ) K hi hz
      split at e
      · rename_i fs hd
        have hd : d = .struct fs := hd
        subst hd
        obtain ⟨hall, e⟩ := ifB_none e
        split at e
        · rename_i l hf
          have hpl := places_run (P := P) (w := w) (allTy_info K hall)
          have hplA : (Array.mapM (fun f => do pure (f.offset, ← Go.sizeOf f.type)) fs : Sem (Array (Nat × Nat))).run P w = .ok (fs.toList.map fun f => (f.offset, ((P.info? f.type).map (·.size)).getD 0)).toArray w := by
            rw [Array.mapM_eq_mapM_toList]
            simp only [Sem.run_map, hpl, Result.andThen_ok]
          obtain ⟨c', hc, hr⟩ := fillL_sim (place' := fun x => (fs.toList.map fun f => (f.offset, ((P.info? f.type).map (·.size)).getD 0)).toArray[x]?) (fun j x hx => by
              unfold placeS at hx
              split at hx
              · rename_i f hfj
                rw [nthL_eq] at hfj
                split at hx
                · rename_i ti hti
                  injection hx with hx
                  rw [List.getElem?_toArray, List.getElem?_map, hfj, Option.map_some, (K.ty f.type ti.1 ti.2 hti).1, ← hx]
                  rfl
                · cases hx
              · cases hx) hp hj hzl hf
          refine ⟨_, e, .agg c', ?_, .agg hr⟩
          simp only [Instr.build, Sem.run_bind, hzr, Result.andThen_ok, run_und hu, hplA, hc, Sem.run_pure]
        · cases e
      · rename_i n elem hd
        have hd : d = .array n elem := hd
        subst hd
        split at e
        · rename_i ei hei
          obtain ⟨hinf2, _⟩ := K.ty elem ei.1 ei.2 hei
          split at e
          · rename_i l hf
            obtain ⟨c', hc, hr⟩ := fillL_sim (place' := fun x => some (x * ei.1.size, ei.1.size)) (fun j x hx => hx) hp hj hzl hf
            refine ⟨_, e, .agg c', ?_, .agg hr⟩
            simp only [Instr.build, Sem.run_bind, hzr, Result.andThen_ok, run_und hu, run_size hinf2, hc, Sem.run_pure]
          · cases e
        · cases e
      · cases e
    · cases e
  · cases e

end

/-! Zeros. -/
theorem zeros_eq (z : List Value) (n : Nat) : ((List.range (n * z.length)).map fun i => (⟨z⟩ : Array Value)[i % z.length]!) = (List.replicate n z).flatten := by
  induction n with
  | zero => simp
  | succ n ih =>
    rw [Nat.add_mul, Nat.one_mul, Nat.add_comm, List.range_add, List.map_append, List.map_map, List.replicate_succ, List.flatten_cons, ← ih]
    congr 1
    · apply List.ext_getElem?
      intro i
      by_cases h : i < z.length
      · simp only [List.getElem?_map, List.getElem?_range h, Option.map_some, Nat.mod_eq_of_lt h, List.getElem?_eq_getElem h]
        congr 1
        simp [h]
      · rw [List.getElem?_eq_none (by simpa using h), List.getElem?_eq_none (by omega)]
    · apply List.map_congr_left
      intro i _
      simp

theorem repL_rel {μ : Mu} {z : List V} {z' : List Value} (h : VL μ z z') (n : Nat) : VL μ (repL z n) (List.replicate n z').flatten := by
  induction n with
  | zero => exact .nil
  | succ n ih =>
    show VL μ (appL z (repL z n)) _
    rw [appL_eq, List.replicate_succ, List.flatten_cons]
    exact h.append ih

theorem repL_length (z : List V) (n : Nat) : (repL z n).length = n * z.length := by
  induction n with
  | zero => simp; rfl
  | succ n ih =>
    show (appL z (repL z n)).length = _
    rw [appL_eq, List.length_append, ih, Nat.add_mul, Nat.one_mul, Nat.add_comm]

end Go.AM
