/- THE ABSTRACT MACHINE, part 31: what is known of a program, checked entry by entry. -/
import Derived.Test.YtghphioodlkcdaaGreatDoorAm30
import Derived.Laws.StandIn
import Derived.Lib.Bytealg
namespace Go.AM
open Go

def T.one {α : Type} (v : Option α) : List (Nat × α) := match v with | some x => [(0, x)] | none => []

/-- What a tree holds, so deep. -/
def T.entsD {α : Type} : Nat → T α → List (Nat × α)
  | 0, _ => []
  | m + 1, t => match t.un with
    | .e => []
    | .n v c0 c1 c2 c3 c4 c5 c6 c7 => T.one v ++ (sub 1 (c0.entsD m) ++ (sub 2 (c1.entsD m) ++ (sub 3 (c2.entsD m) ++ (sub 4 (c3.entsD m) ++ (sub 5 (c4.entsD m) ++ (sub 6 (c5.entsD m) ++ (sub 7 (c6.entsD m) ++ sub 8 (c7.entsD m))))))))
where sub (d : Nat) (l : List (Nat × α)) : List (Nat × α) := l.map fun p => (8 * p.1 + d, p.2)

/-- Is it no deeper? -/
def T.okD {α : Type} : Nat → T α → Bool
  | 0, t => (match t.un with | .e => true | .n .. => false)
  | m + 1, t => match t.un with
    | .e => true
    | .n _ c0 c1 c2 c3 c4 c5 c6 c7 => c0.okD m && (c1.okD m && (c2.okD m && (c3.okD m && (c4.okD m && (c5.okD m && (c6.okD m && c7.okD m))))))

def T.ents {α : Type} (t : T α) : List (Nat × α) := t.entsD 6

theorem sub_mem {α : Type} {d i : Nat} {x : α} {l : List (Nat × α)} (h : (i, x) ∈ l) : (8 * i + d, x) ∈ T.entsD.sub d l := List.mem_map.2 ⟨(i, x), h, rfl⟩

theorem entsD_mem {α : Type} : ∀ (m : Nat) (t : T α) (i : Nat) (x : α), t.okD m = true → t.get i = some x → (i, x) ∈ t.entsD m
  | 0, ⟨.e⟩, i, x, _, h => by rw [show (⟨.e⟩ : T α) = .e from rfl, get_e] at h; cases h
  | 0, ⟨.n ..⟩, i, x, hk, h => by cases hk
  | m + 1, ⟨.e⟩, i, x, _, h => by rw [show (⟨.e⟩ : T α) = .e from rfl, get_e] at h; cases h
  | m + 1, ⟨.n v c0 c1 c2 c3 c4 c5 c6 c7⟩, 0, x, _, h => by
    have h : v = some x := h
    subst h
    exact List.mem_append_left _ (.head _)
  | m + 1, ⟨.n v c0 c1 c2 c3 c4 c5 c6 c7⟩, i + 1, x, hk, h => by
    have h : getP (pth (i + 1)) (⟨.n v c0 c1 c2 c3 c4 c5 c6 c7⟩ : T α) = some x := h
    have hk : (c0.okD m && (c1.okD m && (c2.okD m && (c3.okD m && (c4.okD m && (c5.okD m && (c6.okD m && c7.okD m))))))) = true := hk
    simp only [Bool.and_eq_true] at hk
    obtain ⟨k0, k1, k2, k3, k4, k5, k6, k7⟩ := hk
    rw [pth_succ] at h
    show (i + 1, x) ∈ T.one v ++ (T.entsD.sub 1 (c0.entsD m) ++ (T.entsD.sub 2 (c1.entsD m) ++ (T.entsD.sub 3 (c2.entsD m) ++ (T.entsD.sub 4 (c3.entsD m) ++ (T.entsD.sub 5 (c4.entsD m) ++ (T.entsD.sub 6 (c5.entsD m) ++ (T.entsD.sub 7 (c6.entsD m) ++ T.entsD.sub 8 (c7.entsD m))))))))
    refine List.mem_append_right _ ?_
    have e1 : i = 8 * (i / 8) + i % 8 := (Nat.div_add_mod i 8).symm
    have hlt : i % 8 < 8 := Nat.mod_lt _ (by decide)
    generalize hj : i / 8 = j at *
    generalize hd : i % 8 = d at *
    simp only [List.mem_append]
    have hcase : d = 0 ∨ d = 1 ∨ d = 2 ∨ d = 3 ∨ d = 4 ∨ d = 5 ∨ d = 6 ∨ d = 7 := by omega
    rcases hcase with rfl | rfl | rfl | rfl | rfl | rfl | rfl | rfl
    · have := sub_mem (d := 1) (entsD_mem m c0 j x k0 h); rw [show 8 * j + 1 = i + 1 from by omega] at this; exact .inl this
    · have := sub_mem (d := 2) (entsD_mem m c1 j x k1 h); rw [show 8 * j + 2 = i + 1 from by omega] at this; exact .inr (.inl this)
    · have := sub_mem (d := 3) (entsD_mem m c2 j x k2 h); rw [show 8 * j + 3 = i + 1 from by omega] at this; exact .inr (.inr (.inl this))
    · have := sub_mem (d := 4) (entsD_mem m c3 j x k3 h); rw [show 8 * j + 4 = i + 1 from by omega] at this; exact .inr (.inr (.inr (.inl this)))
    · have := sub_mem (d := 5) (entsD_mem m c4 j x k4 h); rw [show 8 * j + 5 = i + 1 from by omega] at this; exact .inr (.inr (.inr (.inr (.inl this))))
    · have := sub_mem (d := 6) (entsD_mem m c5 j x k5 h); rw [show 8 * j + 6 = i + 1 from by omega] at this; exact .inr (.inr (.inr (.inr (.inr (.inl this)))))
    · have := sub_mem (d := 7) (entsD_mem m c6 j x k6 h); rw [show 8 * j + 7 = i + 1 from by omega] at this; exact .inr (.inr (.inr (.inr (.inr (.inr (.inl this))))))
    · have := sub_mem (d := 8) (entsD_mem m c7 j x k7 h); rw [show 8 * j + 8 = i + 1 from by omega] at this; exact .inr (.inr (.inr (.inr (.inr (.inr (.inr this))))))

theorem ents_mem {α : Type} {t : T α} (hk : t.okD 6 = true) (i : Nat) (x : α) (h : t.get i = some x) : (i, x) ∈ t.ents := entsD_mem 6 t i x hk h

/-- A struct whose fields are cells of these kinds, tested. -/
def plainFs (P : Program) : List Field → List Nat → Nat → Bool
  | [], [], _ => true
  | f :: fs, c :: cs, i => f.name != "_" && f.offset == i && (match P.underlying f.type with | some d => scalarC d == some c | none => false) && plainFs P fs cs (i + 1)
  | _, _, _ => false

def plainB (P : Program) (t : TypeId) (cs : List Nat) : Bool := match P.underlying t with
  | some (.struct fs) => !P.stoodInHeld t && !P.eqGuardType P.depth t && plainFs P fs.toList cs 0
  | _ => false

theorem plainFs_spec {P : Program} : ∀ {fs : List Field} {cs : List Nat} {i : Nat}, plainFs P fs cs i = true → fs.length = cs.length ∧
    ∀ (j : Nat) (f : Field) (c : Nat), fs[j]? = some f → cs[j]? = some c → f.name ≠ "_" ∧ f.offset = i + j ∧ ∃ d, P.underlying f.type = some d ∧ scalarC d = some c
  | [], [], _, _ => ⟨rfl, fun j f c h => by simp at h⟩
  | [], _ :: _, _, h => by cases h
  | _ :: _, [], _, h => by cases h
  | f0 :: fs, c0 :: cs, i, h => by
    simp only [plainFs, Bool.and_eq_true, bne_iff_ne, beq_iff_eq] at h
    obtain ⟨⟨⟨h1, h2⟩, h3⟩, h4⟩ := h
    obtain ⟨q1, q2⟩ := plainFs_spec h4
    refine ⟨by simp [q1], fun j f c hf hc => ?_⟩
    cases j with
    | zero =>
      simp only [List.getElem?_cons_zero, Option.some.injEq] at hf hc
      subst hf hc
      refine ⟨h1, h2, ?_⟩
      split at h3
      · rename_i d hd; exact ⟨d, hd, by simpa using h3⟩
      · cases h3
    | succ j =>
      obtain ⟨a, b, c'⟩ := q2 j f c (by simpa using hf) (by simpa using hc)
      exact ⟨a, by omega, c'⟩

theorem plainB_spec {P : Program} {t : TypeId} {cs : List Nat} (h : plainB P t cs = true) : Plain P t cs := by
  unfold plainB at h
  split at h
  · rename_i fs hfs
    simp only [Bool.and_eq_true, Bool.not_eq_true'] at h
    obtain ⟨⟨h1, h2⟩, h3⟩ := h
    obtain ⟨q1, q2⟩ := plainFs_spec h3
    refine ⟨fs, hfs, h1, h2, q1, fun i f c hf hc => ?_⟩
    obtain ⟨a, b, c'⟩ := q2 i f c hf hc
    exact ⟨a, by omega, c'⟩
  · cases h

theorem map_at {α β : Type} {f g : α → β} {l : List α} (h : l.map f = l.map g) {x : α} (hx : x ∈ l) : f x = g x := List.map_inj_left.1 h x hx

theorem known_of {E : Env} {P : Program} (k1 : E.ty.okD 6 = true) (k2 : E.fn.okD 6 = true) (k3 : E.plain.okD 6 = true) (h1 : E.ty.ents.map (fun e => (P.info? e.1, P.underlying e.1)) = E.ty.ents.map (fun e => (some e.2.1, some e.2.2)))
    (h2 : E.fn.ents.map (fun e => P.funcs[e.1]?) = E.fn.ents.map (fun e => some e.2)) (h3 : E.plain.ents.all (fun e => plainB P e.1 e.2) = true) : Known E P where
  ty := fun t i d h => by
    have := map_at h1 (ents_mem k1 _ _ h)
    exact ⟨congrArg Prod.fst this, congrArg Prod.snd this⟩
  fn := fun f fn h => map_at h2 (ents_mem k2 _ _ h)
  plain := fun t cs h => plainB_spec (List.all_eq_true.1 h3 _ (ents_mem k3 _ _ h))

theorem named_of {E : Env} (k : E.fn.okD 6 = true) (h : E.fn.ents.all (fun e => !(e.2.name == "runtime.NumGoroutine")) = true) : Named E := fun f fn hf => by
  have := List.all_eq_true.1 h _ (ents_mem k _ _ hf)
  simpa using this

/-! The place of a byte in a string. -/
theorem idxByte_eq (c : Nat) (hc : c ≤ 255) : ∀ (l : List UInt8) (i : Nat), idxByte c l i = .i .i64 (if Lib.indexByte l c.toUInt8 = -1 then -1 else Lib.indexByte l c.toUInt8 + i)
  | [], i => rfl
  | x :: r, i => by
    show ifB (Nat.beq x.toNat c) (.i .i64 (.ofNat i)) (fN (Nat.succ i) (idxByte c r)) = _
    rw [ifB_eq, fN_eq]
    have hx : Nat.beq x.toNat c = true ↔ x = c.toUInt8 := by
      rw [beq_true]
      constructor
      · intro h; subst h; simp
      · intro h; subst h; simp; omega
    unfold Lib.indexByte
    split
    · rename_i h
      have h := hx.1 h
      subst h
      simp
    · rename_i h
      have h : ¬ x = c.toUInt8 := fun h' => h (hx.2 h')
      have h' : (x == c.toUInt8) = false := by simpa using h
      rw [idxByte_eq c hc r (Nat.succ i)]
      simp only [h', Bool.false_eq_true, if_false, beq_iff_eq]
      have hge := Lib.indexByte_ge r c.toUInt8
      generalize Lib.indexByte r c.toUInt8 = y at *
      by_cases hy : y = -1
      · simp [hy]
      · rw [if_neg hy, if_neg hy, if_neg (by omega)]
        congr 1
        simp only [Nat.succ_eq_add_one, Int.natCast_add]
        omega

/-- The summary of a function that finds a byte in a string. -/
theorem sIndexByte_ok {P : Program} {f : FuncId} {fn : Func} (hf : P.funcs[f]? = some fn) (hname : (fn.name == "runtime.NumGoroutine") = false) (hb : fn.body.isNone = true) (hn : Extern.findNext fn = none) (he : Extern.find fn = some Extern.BytealgIndexByte.indexByte)
    {args : List V} {h : Heap} {v : V} (e : sIndexByte args h = some v) {μ : Mu} {w : World} {args' : List Value} (ha : VL μ args args') : ∃ v', (callFunc f ⟨args'⟩).run P w = .ok (.value v') w ∧ VR μ v v' := by
  unfold sIndexByte at e
  split at e
  · rename_i l c
    obtain ⟨hc, e⟩ := ifB_none e
    have hc := ble_true.1 hc
    injection e with e
    subst e
    cases ha with | cons h1 t => cases t with | cons h2 t =>
    cases t
    cases h1; cases h2
    refine ⟨.int .i64 (Lib.indexByte l c.toUInt8), ?_, ?_⟩
    · rw [run_callFunc_indexByte hf hname hb hn he, Lib.run_indexByteString]
      simp
    · rw [idxByte_eq c hc]
      have hge := Lib.indexByte_ge l c.toUInt8
      have : (if Lib.indexByte l c.toUInt8 = -1 then (-1 : Int) else Lib.indexByte l c.toUInt8 + ((0 : Nat) : Int)) = Lib.indexByte l c.toUInt8 := by split <;> omega
      rw [this]
      exact .i _ _
  · cases e
end Go.AM
