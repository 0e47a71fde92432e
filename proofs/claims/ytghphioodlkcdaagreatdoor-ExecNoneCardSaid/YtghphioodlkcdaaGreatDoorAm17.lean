/- THE ABSTRACT MACHINE, part 17: makeSlice, maps, type assertions, ranges, panics. -/
import Derived.Test.YtghphioodlkcdaaGreatDoorAm16
import Derived.MapKept
namespace Go.AM
open Go

section
variable {P : Program} {μ : Mu} {h : Heap} {nx : Nat} {w : World} {E : Env} (K : Known E P) (g : G μ h nx w)

section
include K g
theorem oMakeSlice_sim {t : TypeId} {l c : V} {l' c' : Value} {v : V} {f : Eff} (hl : VR μ l l') (hc : VR μ c c') (e : oMakeSlice E t l c nx = .val v f) : ValE P μ h nx w (Instr.makeSlice t l' c') v f := by
  unfold oMakeSlice at e
  split at e
  · rename_i ti elem kl l kc c hti
    obtain ⟨_, hu⟩ := K.ty t ti _ hti
    cases hl
    cases hc
    split at e
    · rename_i ei ed hei
      obtain ⟨hinf, _⟩ := K.ty elem ei ed hei
      split at e
      · rename_i z hz
        obtain ⟨zv, hz1, hz2, hz3⟩ := zeroL_rel (w := w) (μ := μ) K hei hz
        rw [ifB_eq] at e
        split at e
        · rename_i hlc
          have hlc := ble_true.1 hlc
          rw [ifB_eq] at e
          split at e
          · rename_i hzl
            have hzl := beq_true.1 hzl
            rw [lenL_eq] at hzl
            rw [ifB_eq] at e
            split at e
            · rename_i hby
              have hby := ble_true.1 hby
              rw [ifB_eq] at e
              split at e
              · rename_i hmx
                have hmx := ble_true.1 hmx
                rw [ifB_eq] at e
                split at e
                · injection e with e1 e2
                  subst e1 e2
                  rintro h' nx' ⟨rfl, rfl⟩
                  have hzs : zv.cells.toList.length = ei.size := by rw [← hz3.length, hzl]
                  have hw1 : IntKind.i64.wrap (l : Int) = (l : Int) := wrap_nat .i64 l (by show l ≤ 9223372036854775807; omega)
                  have hw2 : IntKind.i64.wrap (c : Int) = (c : Int) := wrap_nat .i64 c (by show c ≤ 9223372036854775807; omega)
                  have hby' : ei.bytes * c ≤ 281474976710656 := hby
                  have hbi : ¬ ((281474976710656 : Int) < (ei.bytes : Int) * (c : Int)) := by
                    have h1 : ((ei.bytes * c : Nat) : Int) ≤ ((281474976710656 : Nat) : Int) := Int.ofNat_le.2 hby'
                    rw [Int.natCast_mul] at h1
                    omega
                  have hn1 : ¬ ((c : Int) < 0) := by omega
                  have hn2 : ¬ ((l : Int) < 0) := by omega
                  have hn3 : ¬ ((c : Int) < (l : Int)) := by omega
                  have hrep : VL μ (repL z c) (((List.range (c * ei.size)).map fun x => (if c * ei.size = 0 then #[] else zv.cells)[x % (if c * ei.size = 0 then #[] else zv.cells).size]!)) := by
                    have h1 := repL_rel (μ := μ) hz3 c
                    rw [← zeros_eq, hzs] at h1
                    by_cases h0 : c * ei.size = 0
                    · rw [h0] at h1 ⊢
                      simpa using h1
                    · rw [if_neg h0]
                      have : zv.cells.size = ei.size := hzs
                      rw [this]
                      exact h1
                  obtain ⟨q1, q2⟩ := new_row g elem hrep
                  refine ⟨_, _, _, ?_, .sl 0 l c (upd_same _ _ _) (by show c < 4611686018427387904; omega), q1, q2⟩
                  by_cases h0 : c * ei.size = 0
                  · simp [Instr.makeSlice, run_und hu, run_info hinf, run_size hinf, asInt, asIntOf, hw1, hw2, hbi, hn1, hn2, hn3, h0, newRow]
                    exact congrArg (fun a => w.alloc (Obj.cells a elem)) (Array.ext' (by simp))
                  · simp [Instr.makeSlice, run_und hu, run_info hinf, run_size hinf, asInt, asIntOf, hw1, hw2, hbi, hn1, hn2, hn3, h0, newRow, hz1]
                    exact congrArg (fun a => w.alloc (Obj.cells a elem)) (Array.ext' (by simp))
                · cases e
              · cases e
            · cases e
          · cases e
        · cases e
      · cases e
    · cases e
  · cases e
end

section
include g
theorem oMakeMap_sim {t : TypeId} {r : Option Operand} {v : V} {f : Eff} (e : oMakeMap r nx = .val v f) : r = none ∧ ValE P μ h nx w (Instr.makeMap t none) v f := by
  unfold oMakeMap at e
  split at e
  · injection e with e1 e2
    subst e1 e2
    refine ⟨rfl, ?_⟩
    rintro h' nx' ⟨rfl, rfl⟩
    obtain ⟨q1, q2⟩ := g.new (.map []) (.map #[] 0) 0 ⟨#[], 0, rfl, .nil⟩
    exact ⟨_, _, _, by simp [Instr.makeMap], .m (upd_same _ _ _), q1, q2⟩
  · cases e
end

theorem sameNow_str (a b : List UInt8) : Instr.sameNow .string (.string ⟨⟨a⟩⟩) (.string ⟨⟨b⟩⟩) = some (bytesEq a b) := by
  show some ((⟨⟨a⟩⟩ : ByteArray) == ⟨⟨b⟩⟩) = _
  rw [bytesEq_eq]
  congr 1
  rw [Bool.eq_iff_iff, MapKept.bytes_beq]
  simp

theorem find_rel (s : List UInt8) : ∀ {es : List (List UInt8 × V)} {l : List MapEntry} (i : Nat), EL μ es l →
    (keyFind s es = none ∧ Instr.findNow .string (.string ⟨⟨s⟩⟩) l i = some none ∧ ∀ v, keyPut s v es = es ++ [(s, v)]) ∨
    (∃ v j x, keyFind s es = some v ∧ Instr.findNow .string (.string ⟨⟨s⟩⟩) l i = some (some (i + j, x.val)) ∧ l[j]? = some x ∧ x.key = .string ⟨⟨s⟩⟩ ∧ VR μ v x.val ∧
      ∀ u (u' : Value), VR μ u u' → EL μ (keyPut s u es) (l.modify j fun e => { e with key := .string ⟨⟨s⟩⟩, val := u' }))
  | [], _, i, hl => by
    cases hl
    exact .inl ⟨rfl, rfl, fun _ => rfl⟩
  | (k, v) :: es, _, i, hl => by
    cases hl with | @cons _ _ v' _ l' n hv ht =>
    have e1 : keyFind s ((k, v) :: es) = ifB (bytesEq s k) (some v) (keyFind s es) := rfl
    have e2 : ∀ u, keyPut s u ((k, v) :: es) = ifB (bytesEq s k) ((k, u) :: es) ((k, v) :: keyPut s u es) := fun u => by
      show ifB (bytesEq s k) ((s, u) :: es) _ = _
      rw [ifB_eq, ifB_eq]
      split
      · rename_i hb; rw [bytesEq_eq] at hb; rw [of_decide_eq_true hb]
      · rfl
    rw [e1]
    simp only [e2]
    cases hb : bytesEq s k with
    | true =>
      have hsk : s = k := by rw [bytesEq_eq] at hb; exact of_decide_eq_true hb
      subst hsk
      refine .inr ⟨v, 0, ⟨.string ⟨⟨s⟩⟩, v', n⟩, rfl, ?_, rfl, rfl, hv, fun u u' hu => ?_⟩
      · simp only [Instr.findNow, sameNow_str, hb, Nat.add_zero]
      · exact .cons n hu ht
    | false =>
      have hf : Instr.findNow .string (.string ⟨⟨s⟩⟩) (⟨.string ⟨⟨k⟩⟩, v', n⟩ :: l') i = Instr.findNow .string (.string ⟨⟨s⟩⟩) l' (i + 1) := by simp only [Instr.findNow, sameNow_str, hb]
      rw [hf]
      rcases find_rel s (i + 1) ht with ⟨a, b, c⟩ | ⟨u, j, x, a, b, c, d, e, f⟩
      · exact .inl ⟨a, b, fun v => by rw [c v]; rfl⟩
      · exact .inr ⟨u, j + 1, x, a, by rw [b]; congr 3; omega, by simpa using c, d, e, fun u u' hu => by simpa using EL.cons n hv (f u u' hu)⟩

theorem mapOf_rel (g : G μ h nx w) {m : V} {m' : Value} {es : List (List UInt8 × V)} (hm : VR μ m m') (e : mapOf m h = some es) :
    (m' = .map none ∧ es = []) ∨ ∃ B ces clock, m' = .map (some B) ∧ w.heap[B]? = some (.map ces clock) ∧ EL μ es ces.toList := by
  unfold mapOf at e
  split at e
  · cases hm
    injection e with e
    exact .inl ⟨rfl, e.symm⟩
  · cases hm with | m hb =>
    split at e
    · rename_i es' he
      injection e with e
      subst e
      obtain ⟨ces, clock, h1, h2⟩ := g.blk _ _ _ _ he hb
      exact .inr ⟨_, ces, clock, rfl, h1, h2⟩
    · cases e
  · cases e

section
include K g
theorem oLookup_sim {t : TypeId} {m k : V} {m' k' : Value} {ok : Bool} {v : V} {f : Eff} (hm : VR μ m m') (hk : VR μ k k') (e : oLookup E t m k ok h = .val v f) : ValE P μ h nx w (Instr.lookup t m' k' ok) v f := by
  unfold oLookup at e
  split at e
  · rename_i ti kt el s hti
    obtain ⟨_, hu⟩ := K.ty t ti _ hti
    cases hk
    split at e
    · rename_i ki ei ed hki hei
      obtain ⟨_, huk⟩ := K.ty kt ki _ hki
      obtain ⟨hie, _⟩ := K.ty el ei ed hei
      split at e
      · rename_i es z hes hz
        have hzr : (zeroValue el).run P w = .ok z w := by simp [zeroValue, run_info hie, hz]
        have fin : ∀ (ces : Array MapEntry) (s' : Sem (Array MapEntry)), EL μ es ces.toList → (Instr.lookup t m' (.string ⟨⟨s⟩⟩) ok).run P w = ((do
            Instr.checkKey ces.isEmpty 10000 kt (.string ⟨⟨s⟩⟩)
            let (v, o) ← match ← Instr.findKey kt (.string ⟨⟨s⟩⟩) ces.toList with
              | some (_, v) => pure (v, true)
              | none => pure (← zeroValue el, false)
            pure (if ok then .tuple #[v, .bool o] else v) : Sem Value)).run P w → ValE P μ h nx w (Instr.lookup t m' (.string ⟨⟨s⟩⟩) ok) v f := by
          intro ces _ hel hrun
          have hck : (Instr.checkKey ces.isEmpty 10000 kt (.string ⟨⟨s⟩⟩)).run P w = .ok () w := MapKept.run_checkKey (k := .string ⟨⟨s⟩⟩) huk (show MapKept.IsKey .string (.string ⟨⟨s⟩⟩) from trivial) _ 9999
          rcases find_rel s 0 hel with ⟨a, b, _⟩ | ⟨u, j, x, a, b, c, d, e', _⟩
          · rw [a] at e
            have hfk := MapKept.run_findKey (P := P) (w := w) huk b
            injection e with e1 e2
            subst e2
            refine ValE.of_val g ⟨if ok = true then .tuple #[z, .bool false] else z, ?_, ?_⟩
            · rw [hrun]
              simp [hck, hfk, hzr]
            · rw [← e1, ifB_eq]
              split
              · exact .tup (.cons (VR.ofVal z) (.cons (.b false) .nil))
              · exact VR.ofVal z
          · rw [a] at e
            have hfk := MapKept.run_findKey (P := P) (w := w) huk b
            injection e with e1 e2
            subst e2
            refine ValE.of_val g ⟨if ok = true then .tuple #[x.val, .bool true] else x.val, ?_, ?_⟩
            · rw [hrun]
              simp [hck, hfk]
            · rw [← e1, ifB_eq]
              split
              · exact .tup (.cons e' (.cons (.b true) .nil))
              · exact e'
        rcases mapOf_rel g hm hes with ⟨rfl, rfl⟩ | ⟨B, ces, clock, rfl, hw, hel⟩
        · exact fin #[] (pure #[]) .nil (by simp [Instr.lookup, run_und hu]; rfl)
        · exact fin ces (pure ces) hel (by simp [Instr.lookup, run_und hu, MapKept.run_getObj_map hw]; rfl)
      · cases e
    · cases e
  · cases e

theorem oMapUpdate_sim {t : TypeId} {m k x : V} {m' k' x' : Value} {v : V} {f : Eff} (hm : VR μ m m') (hk : VR μ k k') (hx : VR μ x x') (e : oMapUpdate E t m k x h = .val v f) : v = undefV ∧ UnitE P μ h nx w (Instr.mapUpdate t m' k' x') f := by
  unfold oMapUpdate at e
  split at e
  · rename_i ti kt el b s hti
    obtain ⟨_, hu⟩ := K.ty t ti _ hti
    cases hk
    cases hm with | @m _ B N hb =>
    split at e
    · rename_i ki es hki hes
      obtain ⟨_, huk⟩ := K.ty kt ki _ hki
      injection e with e1 e2
      subst e1 e2
      refine ⟨rfl, ?_⟩
      rintro h' nx' ⟨rfl, rfl⟩
      obtain ⟨ces, clock, hw, hel⟩ := g.blk _ _ _ _ hes hb
      have hck : (Instr.checkKey false 10000 kt (.string ⟨⟨s⟩⟩)).run P w = .ok () w := MapKept.run_checkKey (k := .string ⟨⟨s⟩⟩) huk (show MapKept.IsKey .string (.string ⟨⟨s⟩⟩) from trivial) _ 9999
      have turn : ∀ ces' clock', EL μ (keyPut s x es) (Array.toList ces') → G μ (h.put b (some (.map (keyPut s x es)))) nx' { w with heap := w.heap.setIfInBounds B (.map ces' clock') } ∧
          Ext μ h nx' w μ (h.put b (some (.map (keyPut s x es)))) nx' { w with heap := w.heap.setIfInBounds B (.map ces' clock') } := by
        intro ces' clock' hel'
        refine g.turn (blk' := .map (keyPut s x es)) (w' := { w with heap := w.heap.setIfInBounds B (.map ces' clock') }) hes hb rfl (by simp) (fun C hC => (MapKept.heap_set hw).2 C hC) ⟨ces', clock', (MapKept.heap_set hw).1, hel'⟩ rfl rfl rfl
      rcases find_rel s 0 hel with ⟨a, b', c⟩ | ⟨u, j, y, a, b', c, d, e', f⟩
      · have hfk := MapKept.run_findKey (P := P) (w := w) huk b'
        obtain ⟨q1, q2⟩ := turn (ces.push { key := .string ⟨⟨s⟩⟩, val := x', born := clock }) (clock + 1) (by
          rw [c x, Array.toList_push]
          have app : ∀ {es : List (List UInt8 × V)} {l : List MapEntry}, EL μ es l → EL μ (es ++ [(s, x)]) (l ++ [{ key := .string ⟨⟨s⟩⟩, val := x', born := clock }]) := by
            intro es l hl
            induction hl with
            | nil => exact .cons _ hx .nil
            | cons n h t ih => exact .cons n h ih
          exact app hel)
        refine ⟨_, μ, ?_, q1, q2⟩
        simp [Instr.mapUpdate, run_und hu, MapKept.run_getObj_map hw, hck, hfk, MapKept.run_setObj_map _ hw]
      · have hfk := MapKept.run_findKey (P := P) (w := w) huk b'
        obtain ⟨q1, q2⟩ := turn (ces.modify j fun e => { e with key := .string ⟨⟨s⟩⟩, val := x' }) clock (by
          rw [Array.toList_modify]
          exact f x x' hx)
        refine ⟨_, μ, ?_, q1, q2⟩
        have hj : ces[j]? = some y := by simpa using c
        have hst : (Instr.keyThatStays (.string ⟨⟨s⟩⟩) (.string ⟨⟨s⟩⟩)).run P w = .ok (.string ⟨⟨s⟩⟩) w := MapKept.run_keyThatStays (d := .string) (k := .string ⟨⟨s⟩⟩) (show MapKept.IsKey .string (.string ⟨⟨s⟩⟩) from trivial)
        simp [Instr.mapUpdate, run_und hu, MapKept.run_getObj_map hw, hck, hfk, hj, d, hst, MapKept.run_setObj_map _ hw]
    · cases e
  · cases e

theorem oTypeAssert_sim {x : V} {x' : Value} {xt a : TypeId} {ok : Bool} {v : V} {f : Eff} (hx : VR μ x x') (e : oTypeAssert E x a ok = .val v f) : ValE P μ h nx w (Instr.typeAssert x' xt a ok) v f := by
  unfold oTypeAssert at e
  split at e
  · rename_i i d hi
    obtain ⟨hinf, hu⟩ := K.ty a i d hi
    have fails : ∀ (st dy : Option TypeId) (ms : String), ok = true → (match i.zero with | some z => ORes.val (.tup [ofVal z, .b false]) .no | none => .stuck) = .val v f →
        ValE P μ h nx w (do if ok then pure (.tuple #[← zeroValue a, .bool false]) else runtimePanic (.typeAssertion st dy a ms)) v f := by
      intro st dy ms hok e
      split at e
      · rename_i z hz
        injection e with e1 e2
        subst e1 e2
        have hzr : (zeroValue a).run P w = .ok z w := by simp [zeroValue, run_info hinf, hz]
        exact ValE.of_val g ⟨.tuple #[z, .bool false], by simp [hok, hzr], .tup (.cons (VR.ofVal z) (.cons (.b false) .nil))⟩
      · cases e
    split at e
    · cases e
    · rename_i hni
      split at e
      · rename_i t u
        cases hx with | n _ hu' =>
        rw [ifB_eq] at e
        split at e
        · rename_i ht
          have ht := beq_true.1 ht
          subst ht
          injection e with e1 e2
          subst e2
          refine ValE.of_val g ⟨if ok = true then .tuple #[_, .bool true] else _, ?_, by
            rw [← e1, ifB_eq]
            split
            · exact .tup (.cons hu' (.cons (.b true) .nil))
            · exact hu'⟩
          unfold Instr.typeAssert
          simp only [Sem.run_bind, run_und hu, Result.andThen_ok]
          cases d <;> first | (exact absurd rfl (hni _)) | simp
        · rename_i ht
          have ht : ¬ t = a := fun h' => ht (by subst h'; exact Nat.beq_refl _)
          rw [ifB_eq] at e
          split at e
          · rename_i hok
            have := fails (some xt) (some t) "" hok e
            intro h' nx' hs'
            obtain ⟨v', w', μ', q1, q2⟩ := this h' nx' hs'
            refine ⟨v', w', μ', ?_, q2⟩
            unfold Instr.typeAssert
            simp only [Sem.run_bind, run_und hu, Result.andThen_ok]
            rw [← q1]
            cases d <;> first | (exact absurd rfl (hni _)) | simp [ht]
          · cases e
      · cases hx
        rw [ifB_eq] at e
        split at e
        · rename_i hok
          have := fails (some xt) none "" hok e
          intro h' nx' hs'
          obtain ⟨v', w', μ', q1, q2⟩ := this h' nx' hs'
          refine ⟨v', w', μ', ?_, q2⟩
          unfold Instr.typeAssert
          simp only [Sem.run_bind, run_und hu, Result.andThen_ok]
          rw [← q1]
        · exact nomatch e
      · cases e
  · cases e

theorem oRange_sim {t : TypeId} {x : V} {x' : Value} {v : V} {f : Eff} (hx : VR μ x x') (e : oRange E t x nx = .val v f) : ValE P μ h nx w (Instr.range t x') v f := by
  unfold oRange at e
  split at e
  · rename_i ti s hti
    obtain ⟨_, hu⟩ := K.ty t ti _ hti
    cases hx
    injection e with e1 e2
    subst e1 e2
    rintro h' nx' ⟨rfl, rfl⟩
    obtain ⟨q1, q2⟩ := g.new (.iter s 0) (.stringIter ⟨⟨s⟩⟩ 0) 0 rfl
    exact ⟨_, _, _, by simp [Instr.range, run_und hu], .p 0 (upd_same _ _ _), q1, q2⟩
  · cases e
end

section
include g
theorem oNext_sim {it : V} {it' : Value} {s : Bool} {ty : TypeId} {v : V} {f : Eff} (hx : VR μ it it') (e : oNext it s h = .val v f) : ValE P μ h nx w (Instr.next it' s ty) v f := by
  unfold oNext at e
  split at e
  · rename_i b
    cases hx with | @p _ B N _ hb =>
    split at e
    · rename_i s pos hit
      have hw : w.heap[B]? = some (.stringIter ⟨⟨s⟩⟩ pos) := g.blk _ _ _ _ hit hb
      have hget : (getObj B).run P w = .ok (.stringIter ⟨⟨s⟩⟩ pos) w := by simp [getObj, Sem.run, hw]
      have hset : ∀ o, (setObj B o).run P w = .ok () { w with heap := w.heap.setIfInBounds B o } := fun o => by simp [setObj, Sem.run, hw]
      have hss : (ByteArray.mk ⟨s⟩).size = s.length := rfl
      rw [nthL_eq] at e
      split at e
      · rename_i hn
        injection e with e1 e2
        subst e1 e2
        have hge : ¬ pos < s.length := by
          intro hlt
          rw [List.getElem?_eq_getElem hlt] at hn
          cases hn
        refine ValE.of_val g ⟨.tuple #[.bool false], ?_, .tup (.cons (.b _) .nil)⟩
        simp [Instr.next, hget, hss, hge]
      · rename_i c hn
        rw [ifB_eq] at e
        split at e
        · rename_i hc
          have hc := ble_true.1 hc
          simp only [fN_eq] at e
          injection e with e1 e2
          subst e1 e2
          rintro h' nx' ⟨rfl, rfl⟩
          have hlt : pos < s.length := by
            rcases Nat.lt_or_ge pos s.length with h' | h'
            · exact h'
            · rw [List.getElem?_eq_none h'] at hn; cases hn
          have hdec : Utf8.decode ⟨⟨s⟩⟩ pos = (c.toNat, 1) := by
            have hgb : ((ByteArray.mk ⟨s⟩).get! (pos + 0)).toNat = c.toNat := by
              have : (ByteArray.mk ⟨s⟩).get! (pos + 0) = c := by
                show (⟨s⟩ : Array UInt8)[pos + 0]! = c
                rw [Nat.add_zero]
                simp [hn]
              rw [this]
            unfold Utf8.decode
            simp only [hgb]
            rw [if_pos (by omega)]
          obtain ⟨q1, q2⟩ := g.turn (w' := { w with heap := w.heap.setIfInBounds B (.stringIter ⟨⟨s⟩⟩ (pos + 1)) }) (blk' := .iter s (Nat.succ pos)) hit hb rfl (by simp) (fun C hC => (MapKept.heap_set hw).2 C hC) (MapKept.heap_set hw).1 rfl rfl rfl
          refine ⟨.tuple #[.bool true, goInt pos, .int .i32 c.toNat], _, μ, ?_, .tup (.cons (.b _) (.cons (.i _ _) (.cons (.i _ _) .nil))), q1, q2⟩
          simp [Instr.next, hget, hss, hlt, hdec, hset]
        · cases e
    · cases e
  · cases e
end

theorem oPanic_sim {x : V} {x' : Value} {v : V} (hx : VR μ x x') (e : oPanic x = .pan v) : ∃ v', (Instr.panic x').run P w = .halt (.panic v') w ∧ VR μ v v' := by
  unfold oPanic at e
  split at e
  · cases hx with | n _ hu =>
    injection e with e
    subst e
    exact ⟨_, rfl, .n _ hu⟩
  · cases e

theorem oPanic_val {x : V} {r : ORes} (e : oPanic x = r) : (∃ v, r = .pan v) ∨ r = .stuck := by
  unfold oPanic at e
  split at e <;> subst e
  · exact .inl ⟨_, rfl⟩
  · exact .inr rfl

end
end Go.AM
