/- THE ABSTRACT MACHINE, part 9: strings, comparisons, what needs no memory. -/
import Derived.Test.YtghphioodlkcdaaGreatDoorAm8
import Derived.Laws.StructEq
import Derived.Laws.Concat
namespace Go.AM
open Go

section
variable {R : Type} {r : R} {P : Program} {μ : Mu} {w : World}

theorem toList_mk (l : List UInt8) : (ByteArray.mk ⟨l⟩).toList = l := ByteArray.toList_eq _

theorem beqL (a b : List UInt8) : (a == b) = decide (a = b) := by rw [Bool.eq_iff_iff]; simp

theorem strK_sim {op : BinOp} {a b : List UInt8} {t : TypeId} {g : V → Option R} (e : strK a b g op = some r) :
    ∃ v, g v = some r ∧ Val P μ w (binOp op t (.string ⟨⟨a⟩⟩) (.string ⟨⟨b⟩⟩)) v := by
  cases op <;> first | cases e | skip
  case add =>
    obtain ⟨hl, e⟩ := ifB_none e
    rw [fL_eq, appL_eq] at e
    have hl := ble_true.1 hl
    rw [lenL_eq, lenL_eq] at hl
    refine ⟨_, e, .string ⟨⟨a ++ b⟩⟩, ?_, .s _⟩
    rw [binOp_string_add, run_string_add_sum w ⟨⟨a⟩⟩ ⟨⟨b⟩⟩ hl]
    exact congrArg (fun x => Result.ok (Value.string x) w) (ByteArray.mk_append_mk a b)
  case eql =>
    rw [show strK a b g .eql = gB (bytesEq a b) g from rfl, gB_eq] at e
    exact ⟨_, e, .bool (bytesEq a b), by rw [binOp_string_eql, toList_mk, toList_mk, bytesEq_eq, beqL]; rfl, .b _⟩
  case neq =>
    rw [show strK a b g .neq = gB (Bool.not (bytesEq a b)) g from rfl, gB_eq] at e
    exact ⟨_, e, .bool (Bool.not (bytesEq a b)), by rw [binOp_string_neq, toList_mk, toList_mk, bytesEq_eq, beqL]; rfl, .b _⟩

theorem unK_sim {op : UnOp} {x : V} {x' : Value} {g : V → Option R} (hx : VR μ x x') (e : unK op x g = some r) : ∃ v, g v = some r ∧ Val P μ w (Op.unary op x') v := by
  cases op <;> first | cases e | skip
  case neg =>
    obtain ⟨k, n, rfl, e1⟩ := asI_some e
    rw [gW_eq] at e1
    cases hx
    exact ⟨_, e1, _, by simp [Op.unary, Op.intArith], .i k _⟩
  case not =>
    obtain ⟨c, rfl, e1⟩ := asB_some e
    rw [gB_eq] at e1
    cases hx
    exact ⟨_, e1, _, by simp [Op.unary], .b _⟩

/-- Cells of one kind. -/
theorem cellEqC_sim {c : Nat} {x y : V} {x' y' : Value} {b : Bool} {t : TypeId} {d : TypeDesc} {n : Nat} (hx : VR μ x x') (hy : VR μ y y') (e : cellEqC c x y = some b)
    (hd : P.underlying t = some d) (hc : scalarC d = some c) : (Op.equalIn (n + 1) t x' y').run P w = .ok b w := by
  match c, e, hc with
  | 0, e, hc =>
    obtain ⟨a, rfl, e1⟩ := asB_some e
    obtain ⟨a', rfl, e2⟩ := asB_some e1
    cases hx; cases hy
    have hd' : P.underlying t = some .bool := by rw [hd]; cases d <;> first | rfl | cases hc
    rw [run_equalIn_bool' w n t _ _ hd']
    injection e2 with e2
    subst e2
    cases a <;> cases a' <;> rfl
  | 1, e, hc =>
    obtain ⟨k, a, rfl, e1⟩ := asI_some e
    obtain ⟨k', a', rfl, e2⟩ := asI_some e1
    cases hx; cases hy
    obtain ⟨hk, e3⟩ := ifB_none e2
    rw [kindEq_eq, decide_eq_true_eq] at hk
    subst hk
    have : ∃ k0, P.underlying t = some (.int k0) := by
      cases d <;> first | exact ⟨_, hd⟩ | cases hc
    obtain ⟨k0, hd'⟩ := this
    rw [run_equalIn_int w n t k k0 _ _ hd']
    injection e3 with e3
    rw [← e3, intEq_eq]; rfl
  | 2, e, hc =>
    obtain ⟨a, rfl, e1⟩ := asS_some e
    obtain ⟨a', rfl, e2⟩ := asS_some e1
    cases hx; cases hy
    have hd' : P.underlying t = some .string := by rw [hd]; cases d <;> first | rfl | cases hc
    rw [run_equalIn_string w n t _ _ hd', toList_mk, toList_mk]
    injection e2 with e2
    rw [← e2, bytesEq_eq, beqL]
  | c + 3, _, hc => cases d <;> cases hc

theorem isAgg_scalar {d : TypeDesc} {c : Nat} (h : scalarC d = some c) : isAggD d = false := by
  cases d <;> first | rfl | cases h

theorem eqFields_sim (n : Nat) (xs' ys' : List Value) : ∀ (fs : List Field) (cs : List Nat) (xs ys : List V) (i : Nat) (b : Bool),
    fs.length = cs.length → (∀ (j : Nat) (f : Field) (c : Nat), fs[j]? = some f → cs[j]? = some c → f.name ≠ "_" ∧ f.offset = i + j ∧ ∃ d, P.underlying f.type = some d ∧ scalarC d = some c) →
    VL μ xs (xs'.drop i) → VL μ ys (ys'.drop i) → plainEq cs xs ys = some b → (Op.eqFields (n + 1) ⟨xs'⟩ ⟨ys'⟩ fs).run P w = .ok b w
  | [], [], xs, ys, i, b, _, _, _, _, e => by
    cases xs with
    | cons => cases e
    | nil => cases ys with
      | cons => cases e
      | nil =>
        have e : some true = some b := e
        injection e with e; subst e; rfl
  | f :: fs, c :: cs, xs, ys, i, b, hl, hf, hx, hy, e => by
    cases xs with
    | nil => cases e
    | cons x xs => cases ys with
      | nil => cases e
      | cons y ys =>
        obtain ⟨h1, h2, d, h3, h4⟩ := hf 0 f c rfl rfl
        simp only [Nat.add_zero] at h2
        obtain ⟨x', ex, hx'⟩ := hx.get 0 x rfl
        obtain ⟨y', ey, hy'⟩ := hy.get 0 y rfl
        rw [List.getElem?_drop, Nat.add_zero] at ex ey
        have px : (part f.type ⟨xs'⟩ f.offset).run P w = .ok x' w := by
          have : (⟨xs'⟩ : Array Value)[i]? = some x' := by simpa using ex
          simp [part, run_isAgg h3, isAgg_scalar h4, h2, this]
        have py : (part f.type ⟨ys'⟩ f.offset).run P w = .ok y' w := by
          have : (⟨ys'⟩ : Array Value)[i]? = some y' := by simpa using ey
          simp [part, run_isAgg h3, isAgg_scalar h4, h2, this]
        have e : Option.rec (motive := fun _ => Option Bool) none (fun b => ifB b (plainEq cs xs ys) (some false)) (cellEqC c x y) = some b := e
        cases hc : cellEqC c x y with
        | none => rw [hc] at e; cases e
        | some q =>
          rw [hc] at e
          have e : ifB q (plainEq cs xs ys) (some false) = some b := e
          have hq := cellEqC_sim (w := w) (n := n) hx' hy' hc h3 h4
          simp only [Op.eqFields, if_pos h1, Sem.run_bind, px, py, Result.andThen_ok, hq, Sem.run_ite]
          cases q with
          | false =>
            have e : some false = some b := e
            injection e with e; subst e; rfl
          | true =>
            simp only [Bool.not_true, Bool.false_eq_true, if_false]
            refine eqFields_sim n xs' ys' fs cs xs ys (i + 1) b (by simpa using hl) (fun j f c ej ec => ?_) ?_ ?_ e
            · have := hf (j + 1) f c (by simpa using ej) (by simpa using ec)
              rwa [show i + (j + 1) = i + 1 + j from by omega] at this
            · have := hx.drop 1
              rwa [List.drop_drop, List.drop_one, List.tail_cons] at this
            · have := hy.drop 1
              rwa [List.drop_drop, List.drop_one, List.tail_cons] at this
  | [], _ :: _, _, _, _, _, hl, _, _, _, _ => by simp at hl
  | _ :: _, [], _, _, _, _, hl, _, _, _, _ => by simp at hl

variable {E : Env} (K : Known E P)
include K

theorem aggEq_sim {t : TypeId} {xs ys : List V} {xs' ys' : List Value} {b : Bool} (hx : VL μ xs xs') (hy : VL μ ys ys') (e : aggEq E t xs ys = some b) :
    (Op.equal t (.agg ⟨xs'⟩) (.agg ⟨ys'⟩)).run P w = .ok b w ∧ P.eqGuardType P.depth t = false := by
  unfold aggEq at e
  split at e
  · rename_i cs hcs
    obtain ⟨_, e1⟩ := ifB_none e
    obtain ⟨_, e2⟩ := ifB_none e1
    obtain ⟨fs, h1, h2, h3, h4, h5⟩ := K.plain t cs hcs
    have hfo : P.fieldsOf t = fs := by simp [Program.fieldsOf, h1]
    refine ⟨?_, h3⟩
    unfold Op.equal Op.maxDepth
    rw [run_equalIn_struct w 9999 t ⟨xs'⟩ ⟨ys'⟩ (by rw [hfo]; exact h1) h2, hfo]
    exact eqFields_sim 9998 xs' ys' fs.toList cs xs ys 0 b h4 (fun j f c ef ec => by simpa using h5 j f c ef ec) hx hy e2
  · cases e

/-- '==' of two values that are no two integers and no two strings. -/
theorem opEq_sim {cs : Bool} {t : TypeId} {x y : V} {x' y' : Value} {b : Bool} (hx : VR μ x x') (hy : VR μ y y') (e : opEq E cs t x y = some b) :
    (Op.equal t x' y').run P w = .ok b w ∧ ((x' = .nilIface ∧ y' = .nilIface ∧ cs = true) ∨ (∃ a c, x' = .agg a ∧ y' = .agg c ∧ P.eqGuardType P.depth t = false) ∨ (∀ c, ¬ (x' = .nilIface ∧ y' = .nilIface) ∧ x' ≠ .agg c)) := by
  unfold opEq at e
  cases hi : E.ty.get t with
  | none => rw [hi] at e; cases e
  | some i =>
    obtain ⟨i, d⟩ := i
    obtain ⟨_, hund⟩ := K.ty t i d hi
    rw [hi] at e
    simp only at e
    have one : ∀ q : Bool, (∀ d : Nat, (Op.equalIn (d + 1) t x' y').run P w = .ok q w) → (Op.equal t x' y').run P w = .ok q w := fun q h => h 9999
    split at e
    all_goals first
      | (cases e; done)
      | (cases e; cases hx; cases hy; refine ⟨one _ fun d => ?_, .inr (.inr fun c => ⟨by simp, by simp⟩)⟩; rw [Op.equalIn, Sem.run_bind, run_und hund]; rfl; done)
      | (rename_i a c; cases e; cases hx; cases hy; refine ⟨one _ fun d => ?_, .inr (.inr fun c => ⟨by simp, by simp⟩)⟩; rw [Op.equalIn, Sem.run_bind, run_und hund]; cases a <;> cases c <;> rfl; done)
      | (obtain ⟨hc, e⟩ := ifB_none e; cases hx; cases hy; cases e; exact ⟨one _ fun d => (by rw [Op.equalIn, Sem.run_bind, run_und hund]; rfl), .inl ⟨rfl, rfl, hc⟩⟩)
      | (cases hx with | agg hx => cases hy with | agg hy => exact ⟨(aggEq_sim K hx hy e).1, .inr (.inl ⟨_, _, rfl, rfl, (aggEq_sim (w := w) K hx hy e).2⟩)⟩)
      | (cases e; cases hx <;> cases hy <;> refine ⟨one _ fun d => ?_, .inr (.inr fun c => ⟨by simp, by simp⟩)⟩ <;> rw [Op.equalIn, Sem.run_bind, run_und hund] <;> rfl)

end
end Go.AM
