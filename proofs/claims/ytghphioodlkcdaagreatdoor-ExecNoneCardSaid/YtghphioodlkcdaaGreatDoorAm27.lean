/- THE ABSTRACT MACHINE, part 27: what is asked of a drawn region's text. -/
import Derived.Test.YtghphioodlkcdaaGreatDoorAm26
namespace Go.AM
open Go

/-- What it gives. -/
structure RegOK (E : Env) (ops : List Oper) : Prop where
  back : ∀ (j : Nat) (o : Oper) (e : Edge), ops[j]? = some o → e ∈ o.after → Region.binds .any e = true → e.on < j
  tmp : ∀ (i j : Nat) (x y : Oper), i < j → ops[i]? = some x → ops[j]? = some y → writesTo ops x y = true ∨ writesTo ops y x = true → Anc ops i j
  eff : ∀ (i j : Nat) (x y : Oper), i < j → ops[i]? = some x → ops[j]? = some y → isE E x = true → isE E y = true → Anc ops i j

theorem pairB_spec {E : Env} {ops : List Oper} {ms : List Nat} {j : Nat} {y : Oper} : ∀ (l : List Oper) (i : Nat), pairB E ops ms j y l i = true → ∀ (a : Nat) (x : Oper), l[a]? = some x → i + a < j →
    bitOf ms j (i + a) = true ∨ (writesTo ops x y = false ∧ writesTo ops y x = false ∧ (isE E x = false ∨ isE E y = false))
  | [], i, _, a, x, hx, _ => by simp at hx
  | x0 :: l, i, h, a, x, hx, hlt => by
    have h : ifB (Nat.ble j i) true (ifB (ifB (bitOf ms j i) true (ifB (writesTo ops x0 y) false (ifB (writesTo ops y x0) false (Bool.not (ifB (isE E x0) (isE E y) false))))) (pairB E ops ms j y l (Nat.succ i)) false) = true := h
    rw [ifB_eq] at h
    split at h
    · rename_i hle
      have := ble_true.1 hle
      omega
    · obtain ⟨h1, h2⟩ := ifB_and h
      cases a with
      | zero =>
        have : x0 = x := by simpa using hx
        subst this
        rw [Nat.add_zero]
        revert h1
        cases bitOf ms j i <;> cases writesTo ops x0 y <;> cases writesTo ops y x0 <;> cases isE E x0 <;> cases isE E y <;> intro h1 <;> first | exact absurd h1 (by decide) | simp
      | succ a =>
        have := pairB_spec l (Nat.succ i) h2 a x (by simpa using hx) (by omega)
        rwa [show Nat.succ i + a = i + (a + 1) from by omega] at this

theorem edgesB_spec {j : Nat} : ∀ {l : List Edge}, edgesB j l = true → ∀ e ∈ l, Region.binds .any e = true → e.on < j
  | [], _, e, he, _ => by cases he
  | e0 :: l, h, e, he, hb => by
    have h : ifB (ifB (Region.binds .any e0) (Nat.ble (Nat.succ e0.on) j) true) (edgesB j l) false = true := h
    obtain ⟨h1, h2⟩ := ifB_and h
    cases he with
    | head =>
      rw [hb] at h1
      exact ble_true.1 h1
    | tail _ he => exact edgesB_spec h2 e he hb

theorem regF_spec {E : Env} {ops : List Oper} {ms : List Nat} : ∀ (l : List Oper) (j : Nat), regF E ops ms l j = true → ∀ (a : Nat) (y : Oper), l[a]? = some y → edgesB (j + a) y.after.toList = true ∧ pairB E ops ms (j + a) y ops 0 = true
  | [], j, _, a, y, hy => by simp at hy
  | y0 :: l, j, h, a, y, hy => by
    have h : ifB (edgesB j y0.after.toList) (ifB (pairB E ops ms j y0 ops 0) (regF E ops ms l (Nat.succ j)) false) false = true := h
    obtain ⟨h1, h2⟩ := ifB_and h
    obtain ⟨h2, h3⟩ := ifB_and h2
    cases a with
    | zero =>
      have : y0 = y := by simpa using hy
      subst this
      exact ⟨h1, h2⟩
    | succ a =>
      have := regF_spec l (Nat.succ j) h3 a y (by simpa using hy)
      rwa [show Nat.succ j + a = j + (a + 1) from by omega] at this

theorem regB_ok {E : Env} {ops : List Oper} (h : regB E ops = true) : RegOK E ops := by
  have h0 := regF_spec ops 0 h
  simp only [Nat.zero_add] at h0
  refine ⟨fun j o e ho he hb => edgesB_spec (h0 j o ho).1 e (by simpa using he) hb, fun i j x y hij hx hy hw => ?_, fun i j x y hij hx hy h1 h2 => ?_⟩
  · rcases pairB_spec ops 0 (h0 j y hy).2 i x hx (by omega) with h | ⟨a, b, _⟩
    · rw [Nat.zero_add] at h; exact bitOf_spec h
    · rw [a, b] at hw; rcases hw with h | h <;> cases h
  · rcases pairB_spec ops 0 (h0 j y hy).2 i x hx (by omega) with h | ⟨_, _, c⟩
    · rw [Nat.zero_add] at h; exact bitOf_spec h
    · rw [h1, h2] at c; rcases c with h | h <;> cases h

end Go.AM
