/- THE ABSTRACT MACHINE, part 24: ancestors in a region. -/
import Derived.Test.YtghphioodlkcdaaGreatDoorAm23
namespace Go.AM
open Go

/-- A set of operations that holds what its members hang on. -/
def Closed (ops : List Oper) (S : Nat → Prop) : Prop := ∀ (j : Nat) (o : Oper) (e : Edge), S j → ops[j]? = some o → e ∈ o.after → Region.binds .any e = true → S e.on

def Anc (ops : List Oper) (i j : Nat) : Prop := ∀ S, Closed ops S → S j → S i

theorem testBit_one (n i : Nat) (h : Nat.testBit (Nat.shiftLeft 1 n) i = true) : i = n := by
  have h : Nat.testBit (1 <<< n) i = true := h
  rw [Nat.testBit_shiftLeft] at h
  simp only [Bool.and_eq_true, decide_eq_true_eq] at h
  obtain ⟨h1, h2⟩ := h
  rw [Nat.testBit_one_eq_true_iff_self_eq_zero] at h2
  omega

theorem maskE_spec {ops : List Oper} {j : Nat} {o : Oper} (ho : ops[j]? = some o) {ms : List Nat} (hms : ∀ a m, ms[a]? = some m → ∀ i, m.testBit i = true → Anc ops i a) : ∀ es : List Edge, (∀ e ∈ es, e ∈ o.after) → ∀ i, (maskE ms es).testBit i = true → Anc ops i j
  | [], _, i, h => by
    have h : Nat.testBit 0 i = true := h
    simp at h
  | e :: es, hes, i, h => by
    have h : Nat.testBit (ifB (Region.binds .any e) (Nat.lor (Nat.lor (Nat.shiftLeft 1 e.on) (Option.rec (motive := fun _ => Nat) 0 (fun m => m) (nthL ms e.on))) (maskE ms es)) (maskE ms es)) i = true := h
    rw [ifB_eq] at h
    have rest := maskE_spec ho hms es (fun e he => hes e (.tail _ he)) i
    split at h
    · rename_i hb
      have h : Nat.testBit ((Nat.shiftLeft 1 e.on ||| (Option.rec (motive := fun _ => Nat) 0 (fun m => m) (nthL ms e.on))) ||| maskE ms es) i = true := h
      rw [Nat.testBit_or, Nat.testBit_or, Bool.or_eq_true, Bool.or_eq_true] at h
      intro S hS hj
      have hon : S e.on := hS j o e hj ho (hes e (.head _)) hb
      rcases h with (h | h) | h
      · rw [testBit_one _ _ h]; exact hon
      · rw [nthL_eq] at h
        cases hm : ms[e.on]? with
        | none =>
          rw [hm] at h
          have h : Nat.testBit 0 i = true := h
          simp at h
        | some m =>
          rw [hm] at h
          exact hms e.on m hm i h S hS hon
      · exact rest h S hS hj
    · exact rest h

theorem masksF_spec (ops : List Oper) : ∀ (l : List Oper) (ms : List Nat), ops.drop ms.length = l → (∀ a m, ms[a]? = some m → ∀ i, m.testBit i = true → Anc ops i a) →
    ∀ a m, (masksF l ms)[a]? = some m → ∀ i, m.testBit i = true → Anc ops i a
  | [], ms, _, h => h
  | o :: l, ms, hd, h => by
    have ho : ops[ms.length]? = some o := by
      have : (ops.drop ms.length)[0]? = some o := by rw [hd]; rfl
      simpa using this
    show ∀ a m, (masksF l (fN (maskE ms o.after.toList) (fun m => appL ms [m])))[a]? = some m → ∀ i, m.testBit i = true → Anc ops i a
    rw [fN_eq, appL_eq]
    refine masksF_spec ops l _ ?_ ?_
    · rw [List.length_append, List.length_singleton]
      have : ops.drop (ms.length + 1) = (ops.drop ms.length).drop 1 := by rw [List.drop_drop]
      rw [this, hd]; rfl
    · intro a m ha i hi
      by_cases hlt : a < ms.length
      · rw [List.getElem?_append_left hlt] at ha
        exact h a m ha i hi
      · rw [List.getElem?_append_right (by omega)] at ha
        have h0 : a - ms.length = 0 := by
          rcases Nat.eq_zero_or_pos (a - ms.length) with h' | h'
          · exact h'
          · rw [List.getElem?_eq_none (by show 1 ≤ a - ms.length; exact h')] at ha; cases ha
        rw [h0] at ha
        have ha : some (maskE ms o.after.toList) = some m := ha
        injection ha with ha
        subst ha
        have : a = ms.length := by omega
        subst this
        exact maskE_spec ho h o.after.toList (fun e he => by simpa using he) i hi

theorem bitOf_spec {ops : List Oper} {i j : Nat} (h : bitOf (masksF ops []) j i = true) : Anc ops i j := by
  unfold bitOf at h
  rw [nthL_eq] at h
  cases hm : (masksF ops [])[j]? with
  | none => rw [hm] at h; cases h
  | some m =>
    rw [hm] at h
    exact masksF_spec ops ops [] (by simp) (fun a m ha => by simp at ha) j m hm i h

theorem ordB_spec {ops : List Oper} {i j : Nat} (h : ordB (masksF ops []) i j = true) : Anc ops i j ∨ Anc ops j i := by
  unfold ordB at h
  rw [ifB_eq] at h
  split at h
  · rename_i hb; exact .inl (bitOf_spec hb)
  · exact .inr (bitOf_spec h)

/-! '=' of values. -/
theorem kindEq_true {k k' : IntKind} (h : kindEq k k' = true) : k = k' := by rw [kindEq_eq] at h; exact of_decide_eq_true h
theorem intEq_true {a b : Int} (h : intEq a b = true) : a = b := by rw [intEq_eq] at h; exact of_decide_eq_true h
theorem bytesEq_true {a b : List UInt8} (h : bytesEq a b = true) : a = b := by rw [bytesEq_eq] at h; exact of_decide_eq_true h
theorem ifB_and {c d : Bool} (h : ifB c d false = true) : c = true ∧ d = true := by cases c <;> first | exact ⟨rfl, h⟩ | cases h

theorem veq1_eq {a b : V} (h : veq1 a b = true) : a = b := by
  unfold veq1 at h
  split at h
  · obtain ⟨h1, h2⟩ := ifB_and h
    rw [kindEq_true h1, intEq_true h2]
  · rename_i x y
    cases x <;> cases y <;> first | rfl | cases h
  · rw [bytesEq_true h]
  · rfl
  · obtain ⟨h1, h2⟩ := ifB_and h
    rw [beq_true.1 h1, beq_true.1 h2]
  · obtain ⟨h1, h2⟩ := ifB_and h
    rw [beq_true.1 h1, beq_true.1 h2]
  · obtain ⟨h1, h⟩ := ifB_and h
    obtain ⟨h2, h⟩ := ifB_and h
    obtain ⟨h3, h4⟩ := ifB_and h
    rw [beq_true.1 h1, beq_true.1 h2, beq_true.1 h3, beq_true.1 h4]
  · rfl
  · rw [beq_true.1 h]
  · rfl
  · rfl
  · cases h

theorem veqL_eq : ∀ {l m : List V}, veqL l m = true → l = m
  | [], [], _ => rfl
  | a :: l, b :: m, h => by
    have h : ifB (veq1 a b) (veqL l m) false = true := h
    obtain ⟨h1, h2⟩ := ifB_and h
    rw [veq1_eq h1, veqL_eq h2]
  | [], _ :: _, h => by cases h
  | _ :: _, [], h => by cases h

theorem veq_eq {a b : V} (h : veq a b = true) : a = b := by
  unfold veq at h
  split at h
  · rw [veqL_eq h]
  · rw [veqL_eq h]
  · exact veq1_eq h

end Go.AM
