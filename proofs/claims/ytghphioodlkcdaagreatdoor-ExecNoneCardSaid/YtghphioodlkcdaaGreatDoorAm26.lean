/- THE ABSTRACT MACHINE, part 26: the allocations of a drawn region take their names first. -/
import Derived.Test.YtghphioodlkcdaaGreatDoorAm25
namespace Go.AM
open Go

section
variable (E : Env)

/-- An allocation's name, its cells, and where they lie. -/
structure Named1 (o : Oper) (h : Heap) (nx0 nx : Nat) (p : V) (name : Nat) : Prop where
  ptr : p = .p name 0
  low : nx0 ≤ name
  high : name < nx
  cells : ∃ t z, o.op = .alloc t ∧ oAllocT E t name = .val (.p name 0) (.new z) ∧ h.get name = some (.cells (putL .e z 0) z.length false)

theorem allocT_some {t : TypeId} {nx : Nat} {v : V} {f : Eff} (e : oAllocT E t nx = .val v f) : ∃ z, v = .p nx 0 ∧ f = .new z ∧ ∀ n, oAllocT E t n = .val (.p n 0) (.new z) := by
  unfold oAllocT at e ⊢
  split at e
  · split at e
    · rename_i z hz
      unfold oAlloc at e
      rw [ifB_eq] at e
      split at e
      · rename_i hk
        injection e with e1 e2
        refine ⟨z, e1.symm, e2.symm, fun n => ?_⟩
        simp only [oAlloc, hk]
      · cases e
    · cases e
  · cases e

theorem ptrsF_spec {R : Type} : ∀ (l : List Oper) (i : Nat) (h : Heap) (nx : Nat) (k : List V → Heap → Nat → Option R) (r : R), ptrsF E l h nx k = some r →
    ∃ (ps : List V) (h' : Heap) (nx' : Nat) (ptr : Nat → V) (nm : Nat → Nat), k ps h' nx' = some r ∧ Hands ptr l i ps ∧ nx ≤ nx' ∧
      (∀ (μ : Mu) (w : World), G μ h nx w → G μ h' nx' w ∧ Ext μ h nx w μ h' nx' w) ∧
      (∀ j o, l[j]? = some o → isA o = true → Named1 E o h' nx nx' (ptr (i + j)) (nm (i + j))) ∧
      (∀ j j' o o', l[j]? = some o → l[j']? = some o' → isA o = true → isA o' = true → nm (i + j) = nm (i + j') → j = j') ∧ (∀ a, a < nx → h'.get a = h.get a)
  | [], i, h, nx, k, r, e => ⟨[], h, nx, fun _ => .junk, fun _ => 0, e, trivial, Nat.le_refl _, fun μ w g => ⟨g, Ext.refl _ _ _ _⟩, fun j o ho => by simp at ho, fun j j' o o' ho => by simp at ho, fun _ _ => rfl⟩
  | o :: l, i, h, nx, k, r, e => by
    have e : ifB (isA o) (match (generalizing := false) o.op with
      | .alloc t => (match oAllocT E t nx with
        | .val v f => effK f h nx (fun h' nx' => ptrsF E l h' nx' (fun ps => k (v :: ps)))
        | _ => none)
      | _ => none) (ptrsF E l h nx k) = some r := e
    cases ha : isA o with
    | false =>
      rw [ha] at e
      obtain ⟨ps, h', nx', ptr, nm, h1, h2, h3, h4, h5, h6, h7⟩ := ptrsF_spec l (i + 1) h nx k r e
      refine ⟨ps, h', nx', ptr, nm, h1, by simp [Hands, ha, h2], h3, h4, ?_, ?_, h7⟩
      · intro j o' ho' ha'
        cases j with
        | zero =>
          have : o = o' := by simpa using ho'
          subst this
          rw [ha] at ha'; cases ha'
        | succ j =>
          have := h5 j o' (by simpa using ho') ha'
          rwa [show i + 1 + j = i + (j + 1) from by omega] at this
      · intro j j' o1 o2 q1 q2 a1 a2 hn
        cases j with
        | zero =>
          have : o = o1 := by simpa using q1
          subst this
          rw [ha] at a1; cases a1
        | succ j => cases j' with
          | zero =>
            have : o = o2 := by simpa using q2
            subst this
            rw [ha] at a2; cases a2
          | succ j' =>
            have := h6 j j' o1 o2 (by simpa using q1) (by simpa using q2) a1 a2 (by rwa [show i + 1 + j = i + (j + 1) from by omega, show i + 1 + j' = i + (j' + 1) from by omega])
            omega
    | true =>
      rw [ha] at e
      have e : (match (generalizing := false) o.op with
        | .alloc t => (match oAllocT E t nx with
          | .val v f => effK f h nx (fun h' nx' => ptrsF E l h' nx' (fun ps => k (v :: ps)))
          | _ => none)
        | _ => none) = some r := e
      split at e
      · rename_i t hop
        split at e
        · rename_i v f hv
          obtain ⟨z, rfl, rfl, hz⟩ := allocT_some E hv
          obtain ⟨h1, nx1, e1, rfl, rfl⟩ := effK_some e
          obtain ⟨ps, h', nx', ptr, nm, q1, q2, q3, q4, q5, q6, q7⟩ := ptrsF_spec l (i + 1) _ _ _ r e1
          have hne : ∀ {α : Type} (x : α) (y : Nat → α) m, i < m → (if m = i then x else y m) = y m := fun x y m hm => if_neg (by omega)
          have hands : ∀ (l : List Oper) (m : Nat) (ps : List V), i < m → Hands ptr l m ps → Hands (fun m => if m = i then .p nx 0 else ptr m) l m ps := by
            intro l
            induction l with
            | nil => intro m ps _ _; trivial
            | cons o' l ih =>
              intro m ps hm hh
              unfold Hands at hh ⊢
              split
              · rename_i hA
                rw [if_pos hA] at hh
                cases ps with
                | nil => trivial
                | cons p ps => exact ⟨by rw [hne _ _ _ hm]; exact hh.1, ih (m + 1) ps (by omega) hh.2⟩
              · rename_i hA
                rw [if_neg hA] at hh
                exact ih (m + 1) ps (by omega) hh
          refine ⟨.p nx 0 :: ps, h', nx', fun m => if m = i then .p nx 0 else ptr m, fun m => if m = i then nx else nm m, q1, ?_, by omega, ?_, ?_, ?_, ?_⟩
          · unfold Hands
            rw [if_pos ha]
            exact ⟨if_pos rfl, hands l (i + 1) ps (by omega) q2⟩
          · intro μ w g
            obtain ⟨g1, x1⟩ := g.ghost (.cells (putL .e z 0) z.length false)
            obtain ⟨g2, x2⟩ := q4 μ w g1
            exact ⟨g2, x1.trans x2⟩
          · intro j o' ho' ha'
            cases j with
            | zero =>
              have : o = o' := by simpa using ho'
              subst this
              simp only [Nat.add_zero, if_true]
              exact ⟨rfl, Nat.le_refl _, by omega, t, z, hop, hz nx, by rw [q7 nx (by omega), get_put_same]⟩
            | succ j =>
              obtain ⟨a, b, c, d⟩ := q5 j o' (by simpa using ho') ha'
              simp only
              rw [hne _ _ _ (show i < i + (j + 1) from by omega), hne _ _ _ (show i < i + (j + 1) from by omega), show i + (j + 1) = i + 1 + j from by omega]
              exact ⟨a, by omega, c, d⟩
          · intro j j' o1 o2 p1 p2 a1 a2 hn
            have low : ∀ j o1, l[j]? = some o1 → isA o1 = true → nx < nm (i + (j + 1)) := fun j o1 p a => by
              have := (q5 j o1 p a).low
              rw [show i + (j + 1) = i + 1 + j from by omega]
              omega
            cases j with
            | zero => cases j' with
              | zero => rfl
              | succ j' =>
                have := low j' o2 (by simpa using p2) a2
                simp only [Nat.add_zero, if_true] at hn
                rw [hne _ _ _ (show i < i + (j' + 1) from by omega)] at hn
                omega
            | succ j => cases j' with
              | zero =>
                have := low j o1 (by simpa using p1) a1
                simp only [Nat.add_zero, if_true] at hn
                rw [hne _ _ _ (show i < i + (j + 1) from by omega)] at hn
                omega
              | succ j' =>
                simp only at hn
                rw [hne _ _ _ (show i < i + (j + 1) from by omega), hne _ _ _ (show i < i + (j' + 1) from by omega)] at hn
                have := q6 j j' o1 o2 (by simpa using p1) (by simpa using p2) a1 a2 (by rwa [show i + 1 + j = i + (j + 1) from by omega, show i + 1 + j' = i + (j' + 1) from by omega])
                omega
          · intro a ha'
            rw [q7 a (by omega), get_put, if_neg (by omega)]
        · cases e
      · cases e
end
end Go.AM
