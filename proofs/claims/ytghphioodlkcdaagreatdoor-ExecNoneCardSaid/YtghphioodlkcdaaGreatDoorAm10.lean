/- THE ABSTRACT MACHINE, part 10: operators, aggregates, places. -/
import Derived.Test.YtghphioodlkcdaaGreatDoorAm9
namespace Go.AM
open Go

section
variable {R : Type} {r : R} {P : Program} {μ : Mu} {w : World}

theorem guard_other (op : BinOp) (t : TypeId) (x y : Operand) (a b : Value) (h1 : ¬ (a = .nilIface ∧ b = .nilIface)) (h2 : ∀ c, a ≠ .agg c) : (eqGuard op t x y a b).run P w = .ok () w := by
  have key : (match a, b with
    | .nilIface, .nilIface =>
      if ((match x with | .const _ => true | _ => false) || match y with | .const _ => true | _ => false) = true then (pure () : Sem Unit)
      else do
        let q ← Op.eqGuardIn Op.maxDepth t a b
        if q = true then unsupported (Unsupported.noEntry "binop/eql: two nil values of an interface type with methods, neither of them the literal nil") else pure ()
    | .agg _, .agg _ => do
      let q ← program
      let q1 ← program
      if (!q.eqGuardType q1.depth t) = true then pure ()
      else do
        let q ← Op.eqGuardIn Op.maxDepth t a b
        if q = true then unsupported (Unsupported.noEntry "binop/eql: two nil values of an interface type with methods, in a part of a struct or an array") else pure ()
    | _, _ => pure ()).run P w = .ok () w := by
    split
    · exact absurd ⟨rfl, rfl⟩ h1
    · exact absurd rfl (h2 _)
    · rfl
  cases op <;> first | rfl | exact key

theorem guard_nil (op : BinOp) (t : TypeId) (x y : Operand) (h : ifB (isCst x) true (isCst y) = true) : (eqGuard op t x y .nilIface .nilIface).run P w = .ok () w := by
  cases op <;> first
    | rfl
    | (cases x <;> cases y <;> first | rfl | cases h)

theorem opEq_junk {E : Env} {cs : Bool} {t : TypeId} {y : V} {b : Bool} : opEq E cs t .junk y ≠ some b := by
  intro e
  unfold opEq at e
  split at e
  · cases e
  · split at e
    all_goals first | contradiction | (cases e; done)

theorem binOp_other (op : BinOp) (hop : op = .eql ∨ op = .neq) (t : TypeId) (x y : Value) (hi : ∀ k n, x ≠ .int k n) (hs : ∀ s, x ≠ .string s) (hf : ∀ k n, x ≠ .float k n) (hc : ∀ k n m, x ≠ .complex k n m) {b : Bool} (h : (Op.equal t x y).run P w = .ok b w) :
    (binOp op t x y).run P w = .ok (.bool (if op = .eql then b else Bool.not b)) w := by
  rcases hop with rfl | rfl
  · have : binOp .eql t x y = (do pure (.bool (← Op.equal t x y))) := by
      unfold binOp
      split
      all_goals first | rfl | (exfalso; simp_all; done)
    rw [this]; simp [h]
  · have : binOp .neq t x y = (do pure (.bool (!(← Op.equal t x y)))) := by
      unfold binOp
      split
      all_goals first | rfl | (exfalso; simp_all; done)
    rw [this]; simp [h]

variable {E : Env} (K : Known E P)
include K

/-- '+', '==' and their kind: the guard, and the operator. -/
theorem binK_sim {op : BinOp} {t : TypeId} {x y : V} {x' y' : Value} {ox oy : Operand} {g : V → Option R} (hx : VR μ x x') (hy : VR μ y y') (e : binK E (ifB (isCst ox) true (isCst oy)) op t x y g = some r) :
    ∃ v, g v = some r ∧ ∃ v', (do eqGuard op t ox oy x' y'; binOp op t x' y' : Sem Value).run P w = .ok v' w ∧ VR μ v v' := by
  have fin : ∀ {v : V}, g v = some r → (eqGuard op t ox oy x' y').run P w = .ok () w → Val P μ w (binOp op t x' y') v → ∃ v, g v = some r ∧ ∃ v', (do eqGuard op t ox oy x' y'; binOp op t x' y' : Sem Value).run P w = .ok v' w ∧ VR μ v v' := by
    intro v hg h1 ⟨v', h2, h3⟩
    exact ⟨v, hg, v', by simp [h1, h2], h3⟩
  have other : binOther E (ifB (isCst ox) true (isCst oy)) op t x y g = some r → (∀ k n, x' ≠ .int k n) → (∀ s, x' ≠ .string s) → ∃ v, g v = some r ∧ ∃ v', (do eqGuard op t ox oy x' y'; binOp op t x' y' : Sem Value).run P w = .ok v' w ∧ VR μ v v' := by
    intro e hi hs
    have hj : ∀ b, opEq E (ifB (isCst ox) true (isCst oy)) t x y = some b → (∀ k n, x' ≠ .float k n) ∧ (∀ k n m, x' ≠ .complex k n m) := by
      intro b hb
      cases hx <;> first | exact absurd hb opEq_junk | exact ⟨by simp, by simp⟩
    have hgd : ∀ b, opEq E (ifB (isCst ox) true (isCst oy)) t x y = some b → (Op.equal t x' y').run P w = .ok b w ∧ (eqGuard op t ox oy x' y').run P w = .ok () w := by
      intro b hb
      obtain ⟨h1, h2⟩ := opEq_sim (w := w) K hx hy hb
      refine ⟨h1, ?_⟩
      rcases h2 with ⟨rfl, rfl, hc⟩ | ⟨a, c, rfl, rfl, hm⟩ | h2
      · exact guard_nil op t ox oy hc
      · exact run_eqGuard_agg w op t ox oy a c hm
      · exact guard_other op t ox oy x' y' (h2 #[]).1 fun c => (h2 c).2
    cases op <;> first | cases e | skip
    case eql =>
      have e : (match opEq E (ifB (isCst ox) true (isCst oy)) t x y with | some b => gB b g | none => none) = some r := e
      split at e
      · rename_i b hb
        rw [gB_eq] at e
        obtain ⟨h1, h2⟩ := hgd b hb
        exact fin e h2 ⟨_, binOp_other .eql (.inl rfl) t x' y' hi hs (hj b hb).1 (hj b hb).2 h1, by simp; exact .b _⟩
      · cases e
    case neq =>
      have e : (match opEq E (ifB (isCst ox) true (isCst oy)) t x y with | some b => gB (Bool.not b) g | none => none) = some r := e
      split at e
      · rename_i b hb
        rw [gB_eq] at e
        obtain ⟨h1, h2⟩ := hgd b hb
        exact fin e h2 ⟨_, binOp_other .neq (.inr rfl) t x' y' hi hs (hj b hb).1 (hj b hb).2 h1, by simp; exact .b _⟩
      · cases e
  cases x with
  | i k a =>
    cases hx
    obtain ⟨k', b, rfl, e1⟩ := asI_some (show asI y none (fun k' b => binI k a b g op k') = some r from e)
    cases hy
    obtain ⟨v, h1, h2⟩ := binI_sim (P := P) (μ := μ) (w := w) (t := t) e1
    exact fin h1 (guard_other op t ox oy _ _ (by simp) (by simp)) h2
  | s a =>
    cases hx
    obtain ⟨b, rfl, e1⟩ := asS_some (show asS y none (fun b => strK a b g op) = some r from e)
    cases hy
    obtain ⟨v, h1, h2⟩ := strK_sim (P := P) (μ := μ) (w := w) (t := t) e1
    exact fin h1 (guard_other op t ox oy _ _ (by simp) (by simp)) h2
  | junk =>
    exfalso
    have e : binOther E (ifB (isCst ox) true (isCst oy)) op t .junk y g = some r := e
    cases op <;> first
      | cases e
      | (have e : (match opEq E (ifB (isCst ox) true (isCst oy)) t .junk y with | some b => gB b g | none => none) = some r := e
         split at e
         · rename_i h; exact opEq_junk h
         · cases e)
      | (have e : (match opEq E (ifB (isCst ox) true (isCst oy)) t .junk y with | some b => gB (Bool.not b) g | none => none) = some r := e
         split at e
         · rename_i h; exact opEq_junk h
         · cases e)
  | _ => exact other e (by intro k n h; subst h; cases hx) (by intro s h; subst h; cases hx)
end

section
variable {R : Type} {r : R} {P : Program} {μ : Mu} {w : World}
theorem insideK_some {i : Int} {n : Nat} {g : Nat → Option R} (e : insideK i n g = some r) : ∃ j : Nat, i = Int.ofNat j ∧ j < n ∧ g j = some r := by
  cases i with
  | negSucc a => cases e
  | ofNat a =>
    obtain ⟨h, e⟩ := ifB_none (show ifB (Nat.ble (Nat.succ a) n) (g a) none = some r from e)
    exact ⟨a, rfl, ble_true.1 h, e⟩

theorem ptrK_eq (b off : Nat) (g : V → Option R) : ptrK b off g = g (.p b off) := rfl

theorem extractK_sim {x : V} {x' : Value} {i : Nat} {g : V → Option R} (hx : VR μ x x') (e : extractK x i g = some r) : ∃ v, g v = some r ∧ Val P μ w (Instr.extract x' i) v := by
  obtain ⟨l, rfl, e1⟩ := asTup_some e
  cases hx with | @tup _ l' hl =>
  split at e1
  · rename_i v hv
    rw [fH_eq] at e1
    rw [nthL_eq] at hv
    obtain ⟨v', hv', hr⟩ := hl.get i v hv
    refine ⟨_, e1, v', ?_, hr⟩
    have : (⟨l'⟩ : Array Value)[i]? = some v' := by simpa using hv'
    simp [Instr.extract, this]
  · cases e1

variable {E : Env} (K : Known E P)
include K

theorem partK_sim {i : TypeInfo × TypeDesc} {t : TypeId} {cs : List V} {cs' : List Value} {off : Nat} {g : V → Option R} (ht : E.ty.get t = some i) (hc : VL μ cs cs') (e : partK i cs off g = some r) :
    ∃ v, g v = some r ∧ Val P μ w (part t ⟨cs'⟩ off) v := by
  obtain ⟨h1, h2⟩ := K.ty t i.1 i.2 ht
  unfold partK at e
  rw [ifB_eq] at e
  by_cases hd : isAggD i.2 = true
  · rw [if_pos hd] at e
    obtain ⟨_, e⟩ := ifB_none e
    rw [fL_eq, takeL_eq, dropL_eq] at e
    refine ⟨_, e, .agg ((⟨cs'⟩ : Array Value).extract off (off + i.1.size)), by simp [part, run_isAgg h2, hd, run_size h1], ?_⟩
    have : (⟨cs'⟩ : Array Value).extract off (off + i.1.size) = ⟨(cs'.drop off).take i.1.size⟩ := by
      apply Array.ext'
      simp [List.take_drop]
    rw [this]
    exact .agg ((hc.drop off).take _)
  · rw [if_neg hd] at e
    split at e
    · rename_i v hv
      rw [fH_eq] at e
      rw [nthL_eq] at hv
      obtain ⟨v', hv', hr⟩ := hc.get off v hv
      refine ⟨_, e, v', ?_, hr⟩
      have : (⟨cs'⟩ : Array Value)[off]? = some v' := by simpa using hv'
      simp only [Bool.not_eq_true] at hd
      simp [part, run_isAgg h2, hd, this]
    · cases e

theorem fieldK_sim {t : TypeId} {x : V} {x' : Value} {f : Nat} {g : V → Option R} (hx : VR μ x x') (e : fieldK E t x f g = some r) : ∃ v, g v = some r ∧ Val P μ w (Instr.field t x' f) v := by
  obtain ⟨cs, rfl, e1⟩ := asAgg_some e
  cases hx with | agg hc =>
  split at e1
  · rename_i i fs ht
    obtain ⟨_, hu⟩ := K.ty t i _ ht
    split at e1
    · rename_i fd hf
      rw [nthL_eq] at hf
      split at e1
      · rename_i ti hti
        obtain ⟨v, hv, v', h1, h2⟩ := partK_sim (w := w) K hti hc e1
        refine ⟨v, hv, v', ?_, h2⟩
        have : fs[f]? = some fd := by simpa using hf
        simp [Instr.field, run_und hu, this, Go.asAgg, h1]
      · cases e1
    · cases e1
  · cases e1

theorem indexK_sim {t : TypeId} {x ix : V} {x' ix' : Value} {g : V → Option R} (hx : VR μ x x') (hi : VR μ ix ix') (e : indexK E t x ix g = some r) : ∃ v, g v = some r ∧ Val P μ w (Instr.index t x' ix') v := by
  obtain ⟨k, i, rfl, e1⟩ := asI_some e
  cases hi
  split at e1
  · rename_i ti n elem ht
    obtain ⟨_, hu⟩ := K.ty t ti _ ht
    obtain ⟨cs, rfl, e2⟩ := asAgg_some e1
    cases hx with | agg hc =>
    split at e2
    · rename_i ei hei
      obtain ⟨j, rfl, hj, e3⟩ := insideK_some e2
      obtain ⟨v, hv, v', h1, h2⟩ := partK_sim (w := w) K hei hc e3
      refine ⟨v, hv, v', ?_, h2⟩
      obtain ⟨hinf, _⟩ := K.ty elem ei.1 ei.2 hei
      have h1' : (part elem ⟨_⟩ (j * ei.1.size)).run P w = .ok v' w := h1
      simp [Instr.index, asIntOf, run_und hu, hj, run_size hinf, h1']
    · cases e2
  · rename_i ti ht
    obtain ⟨_, hu⟩ := K.ty t ti _ ht
    obtain ⟨s, rfl, e2⟩ := asS_some e1
    cases hx
    cases i with
    | negSucc a => cases e2
    | ofNat a =>
      have e2 : (match nthL s a with | some b => fN b.toNat (fun c => g (.i .u8 (.ofNat c))) | none => none) = some r := e2
      split at e2
      · rename_i b hb
        rw [fN_eq] at e2
        rw [nthL_eq] at hb
        refine ⟨_, e2, .int .u8 b.toNat, ?_, .i _ _⟩
        have hlt : a < (ByteArray.mk ⟨s⟩).size := by
          rcases Nat.lt_or_ge a s.length with h | h
          · exact h
          · rw [List.getElem?_eq_none h] at hb; cases hb
        have : (ByteArray.mk ⟨s⟩)[a]? = some b := by
          rw [ByteArray.getElem?_lt' _ _ hlt]
          congr 1
          show (⟨s⟩ : Array UInt8)[a] = b
          have : s[a]? = some b := hb
          have h' : a < s.length := hlt
          rw [List.getElem?_eq_getElem h'] at this
          injection this
        simp [Instr.index, asIntOf, run_und hu, this]
      · cases e2
  · cases e1

theorem indexAddrK_sim {t : TypeId} {x ix : V} {x' ix' : Value} {g : V → Option R} (hx : VR μ x x') (hi : VR μ ix ix') (e : indexAddrK E t x ix g = some r) : ∃ v, g v = some r ∧ Val P μ w (Instr.indexAt t x' ix') v := by
  obtain ⟨k, i, rfl, e1⟩ := asI_some e
  cases hi
  split at e1
  · rename_i ti n elem ht
    obtain ⟨_, hu⟩ := K.ty t ti _ ht
    obtain ⟨b, off, rfl, e2⟩ := asP_some e1
    cases hx with | p _ hm =>
    split at e2
    · rename_i ei hei
      obtain ⟨hinf, _⟩ := K.ty elem ei.1 ei.2 hei
      obtain ⟨j, rfl, hj, e3⟩ := insideK_some e2
      rw [ptrK_eq] at e3
      refine ⟨_, e3, _, ?_, .p _ hm⟩
      simp [Instr.indexAt, asIntOf, run_und hu, Instr.sureAddr, hj, run_size hinf, addr_add]
    · cases e2
  · rename_i ti elem ht
    obtain ⟨_, hu⟩ := K.ty t ti _ ht
    cases x <;> first | cases e1 | skip
    rename_i b off len c
    have e2 : (match E.ty.get elem with | some e => insideK i len (fun j => ptrK b (Nat.add off (Nat.mul j e.1.size)) g) | none => none) = some r := e1
    split at e2
    · rename_i ei hei
      obtain ⟨hinf, _⟩ := K.ty elem ei.1 ei.2 hei
      obtain ⟨j, rfl, hj, e3⟩ := insideK_some e2
      rw [ptrK_eq] at e3
      cases hx with
      | sl _ _ _ hm _ =>
        refine ⟨_, e3, _, ?_, .p _ hm⟩
        simp [Instr.indexAt, asIntOf, run_und hu, hj, run_size hinf, addr_add]
      | slO _ _ _ _ hm _ _ _ =>
        refine ⟨_, e3, _, ?_, .p _ hm⟩
        simp [Instr.indexAt, asIntOf, run_und hu, hj, run_size hinf, addr_add]
    · cases e2
  · cases e1

theorem fieldAddrK_sim {t : TypeId} {x : V} {x' : Value} {f : Nat} {g : V → Option R} (hx : VR μ x x') (e : fieldAddrK E t x f g = some r) : ∃ v, g v = some r ∧ Val P μ w (Instr.fieldAt t x' f) v := by
  obtain ⟨b, off, rfl, e1⟩ := asP_some e
  cases hx with | p _ hm =>
  split at e1
  · rename_i i fs ht
    obtain ⟨_, hu⟩ := K.ty t i _ ht
    split at e1
    · rename_i fd hf
      rw [nthL_eq] at hf
      split at e1
      · rename_i ti hti
        obtain ⟨hinf, _⟩ := K.ty _ ti.1 ti.2 hti
        obtain ⟨hz, e2⟩ := ifB_none' e1
        rw [ptrK_eq] at e2
        have hz : ti.1.size ≠ 0 := fun h => by rw [h] at hz; cases hz
        refine ⟨_, e2, _, ?_, .p _ hm⟩
        have : fs[f]? = some fd := by simpa using hf
        simp [Instr.fieldAt, run_und hu, this, Instr.sureAddr, fieldPlace, run_size hinf, hz, addr_add]
      · cases e1
    · cases e1
  · cases e1

end

end Go.AM
