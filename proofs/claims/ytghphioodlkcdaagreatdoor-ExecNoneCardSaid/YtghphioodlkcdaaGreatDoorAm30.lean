/- THE ABSTRACT MACHINE, part 30: regions whose order is drawn run as the abstract machine says. -/
import Derived.Test.YtghphioodlkcdaaGreatDoorAm29
namespace Go.AM
open Go

theorem unlisted_set {l : Array Bool} {p n : Nat} (hp : l.getD p true = false) (h : l.count false ≤ n + 1) : (l.setIfInBounds p true).count false ≤ n := by
  have hlt : p < l.size := by
    rcases Nat.lt_or_ge p l.size with h' | h'
    · exact h'
    · rw [Array.getD_eq_getD_getElem?, Array.getElem?_eq_none h'] at hp; cases hp
  have hv : l[p] = false := by
    rw [Array.getD_eq_getD_getElem?, Array.getElem?_eq_getElem hlt] at hp; exact hp
  have hpos : 0 < l.count false := Array.count_pos_iff.2 (by rw [← hv]; exact Array.getElem_mem hlt)
  rw [Array.setIfInBounds, dif_pos hlt, Array.count_set hlt, hv]
  simp
  omega

theorem checkOne_spec {E : Env} {ms : List Nat} {i : Nat} {o : Op} {tm : T V} {v : V} : ∀ {recs : List Rc}, checkOne E ms i o tm v recs = true → ∀ j ha na hb nb, Rc.ef j ha na hb nb ∈ recs → ordB ms i j = true ∨ (valAt E o tm ha na v = true ∧ valAt E o tm hb nb v = true)
  | [], _, j, ha, na, hb, nb, hm => by cases hm
  | .rd i' o' tm' v' :: r, h, j, ha, na, hb, nb, hm => by
    have h : checkOne E ms i o tm v r = true := h
    cases hm with
    | tail _ hm => exact checkOne_spec h j ha na hb nb hm
  | .ef j0 a0 b0 c0 d0 :: r, h, j, ha, na, hb, nb, hm => by
    have h : ifB (ifB (ordB ms i j0) true (ifB (valAt E o tm a0 b0 v) (valAt E o tm c0 d0 v) false)) (checkOne E ms i o tm v r) false = true := h
    obtain ⟨h1, h2⟩ := ifB_and h
    cases hm with
    | head =>
      cases ho : ordB ms i j0 with
      | true => exact .inl rfl
      | false =>
        rw [ho] at h1
        exact .inr (ifB_and h1)
    | tail _ hm => exact checkOne_spec h2 j ha na hb nb hm

theorem checkRE_spec {E : Env} {ms : List Nat} {all : List Rc} : ∀ {recs : List Rc}, checkRE E ms all recs = true → ∀ i o tm v, Rc.rd i o tm v ∈ recs → checkOne E ms i o tm v all = true
  | [], _, i, o, tm, v, hm => by cases hm
  | .ef j0 a0 b0 c0 d0 :: r, h, i, o, tm, v, hm => by
    have h : checkRE E ms all r = true := h
    cases hm with
    | tail _ hm => exact checkRE_spec h i o tm v hm
  | .rd i' o' tm' v' :: r, h, i, o, tm, v, hm => by
    have h : ifB (checkOne E ms i' o' tm' v' all) (checkRE E ms all r) false = true := h
    obtain ⟨h1, h2⟩ := ifB_and h
    cases hm with
    | head => exact h1
    | tail _ hm => exact checkRE_spec h2 i o tm v hm

theorem valAt_spec {E : Env} {o : Op} {tm : T V} {h : Heap} {nx : Nat} {v : V} (e : valAt E o tm h nx v = true) : stillV E o tm h nx = some v := by
  unfold valAt at e
  split at e
  · rename_i v' hv
    rw [hv, veq_eq e]
  · cases e

section
variable {P : Program} {E : Env} {F : Rec R0} {ops : List Oper} {nt : Nat} {tr : Nat → Pt} {ptr : Nat → V} {nm : Nat → Nat} {recs : List Rc} {nx0 nx1 : Nat} {h0 hp : Heap} {μ0 : Mu} {w0 : World} {ds : List Deferred}

theorem JJ.congr {S S' : Nat → Prop} (hs : ∀ i, S i ↔ S' i) {a : Act} {w : World} {μ : Mu} {c : Nat} (J : JJ E ops nt tr nm hp nx0 h0 μ0 w0 ds S a w μ c) : JJ E ops nt tr nm hp nx0 h0 μ0 w0 ds S' a w μ c := by
  have : S = S' := funext fun i => propext (hs i)
  rw [← this]; exact J

theorem JJ.any (K : Known E P) (hC : CallOK P F) (hS : SumOK E P) (X : Ctx E F ops nt tr ptr nm recs nx0 nx1 h0) {Q : Exit → Act → World → Prop}
    (hQ : ∀ a w μ, a.tmps.size = nt → a.defers = ds → TR μ (tr ops.length).tm a.tmps → G μ (tr ops.length).h (tr ops.length).nx w → Ext μ0 hp nx0 w0 μ (tr ops.length).h (tr ops.length).nx w → Q .normal a w) :
    ∀ (fuel : Nat) (listed : Array Bool) (a : Act) (w : World) (μ : Mu) (c : Nat), listed.size = ops.length → listed.count false ≤ fuel → JJ E ops nt tr nm hp nx0 h0 μ0 w0 ds (fun i => listed.getD i false = true) a w μ c →
      wpAny P .any ⟨ops⟩ Q fuel listed a w := by
  have done : ∀ (listed : Array Bool) (a : Act) (w : World) (μ : Mu) (c : Nat), listed.size = ops.length → JJ E ops nt tr nm hp nx0 h0 μ0 w0 ds (fun i => listed.getD i false = true) a w μ c → Region.ready .any ⟨ops⟩ listed = [] → Q .normal a w := by
    intro listed a w μ c hsz J hr
    have all : ∀ n i, i < n → i < ops.length → listed.getD i false = true := by
      intro n
      induction n with
      | zero => intro i h; omega
      | succ n ih =>
        intro i hi hl
        cases hv : listed.getD i false with
        | true => rfl
        | false =>
          obtain ⟨o, ho⟩ := op_at hl
          have : i ∈ Region.ready .any (⟨ops⟩ : Array Oper) listed := by
            rw [mem_ready]
            refine ⟨?_, o, by simpa using ho, fun e he hb => ?_⟩
            · rw [Array.getD_eq_getD_getElem?, Array.getElem?_eq_getElem (by omega)] at hv ⊢
              exact hv
            · have hlt := X.reg.back i o e ho he hb
              exact ih e.on (by omega) (by omega)
          rw [hr] at this
          cases this
    have all' : ∀ i, i < ops.length → listed.getD i false = true := fun i hi => all (i + 1) i (Nat.lt_succ_self i) hi
    obtain ⟨q1, q2⟩ := h_const X J.cle (Nat.le_refl _) (fun i o h1 h2 ho => by
      cases hE : isE E o with
      | false => rfl
      | true => have := (J.hcut i o ho hE).1 (all' i h2); omega)
    refine hQ a w μ J.size J.dfs (fun t => ?_) (by rw [q1, q2]; exact J.g) (by rw [q1, q2]; exact J.ext)
    obtain ⟨ct, h1, h2, h3⟩ := J.tmp t
    rw [tm_const' X h1 (Nat.le_refl _) (fun i o l1 l2 ho hd => by have := (h2 i o ho hd).1 (all' i l2); omega)]
    exact h3
  intro fuel
  induction fuel with
  | zero =>
    intro listed a w μ c hsz hc J
    have hr : Region.ready .any (⟨ops⟩ : Array Oper) listed = [] := by
      cases hr : Region.ready .any (⟨ops⟩ : Array Oper) listed with
      | nil => rfl
      | cons i r =>
        have hi : i ∈ Region.ready .any (⟨ops⟩ : Array Oper) listed := by rw [hr]; exact .head _
        obtain ⟨h1, o, ho, _⟩ := mem_ready.1 hi
        have hlt : i < listed.size := by
          have : i < ops.length := by have := (Array.getElem?_eq_some_iff.1 ho).1; simpa using this
          omega
        rw [Array.getD_eq_getD_getElem?, Array.getElem?_eq_getElem hlt] at h1
        have : false ∈ listed := by
          have h1 : listed[i] = false := h1
          rw [← h1]; exact Array.getElem_mem hlt
        have := Array.count_pos_iff.2 this
        omega
    exact ⟨hr, done listed a w μ c hsz J hr⟩
  | succ fuel ih =>
    intro listed a w μ c hsz hc J
    refine ⟨done listed a w μ c hsz J, fun p hp => ?_⟩
    obtain ⟨h1, o, ho, hdep⟩ := mem_ready.1 hp
    have hlt : p < listed.size := by
      have : p < ops.length := by have := (Array.getElem?_eq_some_iff.1 ho).1; simpa using this
      omega
    have hn : ¬ listed.getD p false = true := by
      rw [Array.getD_eq_getD_getElem?, Array.getElem?_eq_getElem hlt] at h1 ⊢
      have h1 : listed[p] = false := h1
      simp [h1]
    refine J.step K hC hS X (o := o) (by simpa using ho) hn hdep fun a' w' μ' c' J' => ?_
    refine ih (listed.setIfInBounds p true) a' w' μ' c' (by simpa using hsz) (unlisted_set h1 hc) (J'.congr fun i => ?_)
    by_cases hip : i = p
    · subst hip
      simp [hlt]
    · rw [getD_set_ne false (Ne.symm hip)]
      exact ⟨fun h => h.resolve_right hip, .inl⟩

theorem drawOK (hm : P.follows .mixedOrders = true) (K : Known E P) (hC : CallOK P F) (hS : SumOK E P) : DrawOK P E F := by
  intro id ops st k r e μ a u w b c0 cs0 kk hs hb
  unfold drawF at e
  obtain ⟨hreg, e⟩ := ifB_none e
  obtain ⟨ps, h', nx', ptr, nm, e1, hh, hle, hg, hnamed, hinj, _⟩ := ptrsF_spec E ops 0 st.hp st.nx _ r e
  obtain ⟨tr, recs, t1, t2, t3, e2⟩ := textF_trace E F ops st.nt ptr ops 0 ps st.tm h' nx' [] _ r hh e1
  obtain ⟨hchk, e3⟩ := ifB_none e2
  simp only [Nat.zero_add] at hnamed hinj t2 e3
  have X : Ctx E F ops st.nt tr ptr nm recs st.nx nx' h' := by
    refine ⟨regB_ok hreg, t2, hnamed, fun i j oi oj h1 h2 a1 a2 hn => hinj i j oi oj h1 h2 a1 a2 hn, fun i o tm v j ha na hb nb h1 h2 => ?_⟩
    rcases checkOne_spec (checkRE_spec hchk i o tm v h1) j ha na hb nb h2 with h | ⟨h3, h4⟩
    · exact .inl (ordB_spec h)
    · exact .inr ⟨valAt_spec h3, valAt_spec h4⟩
  obtain ⟨g1, x1⟩ := hg μ w hs.g
  have hw : G μ h' nx' { w with drawn := w.drawn + 1 } := G.drew (w := w) rfl g1
  have hx : Ext μ st.hp st.nx w μ h' nx' { w with drawn := w.drawn + 1 } := x1.trans (Ext.drew (w := w) rfl rfl rfl rfl)
  have hlow : ∀ i o, ops[i]? = some o → isA o = true → μ (nm i) = none := fun i o ho ha => (hs.g.fresh _ (hnamed i o ho ha).low).1
  let Q : Exit → Act → World → Prop := fun e' a' w' => e' = .normal ∧ ∃ μ', SR μ' ⟨(tr ops.length).tm, st.nt, st.dfs, st.up, (tr ops.length).h, (tr ops.length).nx⟩ a' u w' ∧ Ext μ st.hp st.nx w μ' (tr ops.length).h (tr ops.length).nx w'
  have hwp : (Code.region id (⟨ops⟩ : Array Oper) true).wp P Q a w := by
    refine wp_region_any hm ?_
    refine JJ.any (nt := st.nt) (tr := tr) (ptr := ptr) (nm := nm) (recs := recs) (nx0 := st.nx) (nx1 := nx') (h0 := h') (hp := st.hp) (μ0 := μ) (w0 := w) (ds := a.defers) K hC hS X ?_ ops.length _ a _ μ 0 (by simp) ?_ ?_
    · intro a' w' μ' q1 q2 q3 q4 q5
      exact ⟨rfl, μ', ⟨q3, q1, by rw [q2]; exact hs.dfs.mono q5.mu, hs.up.mono q5.mu, q4⟩, q5⟩
    · show (Array.replicate ops.length false).count false ≤ ops.length
      rw [Array.count_replicate_self]; exact Nat.le_refl _
    · have no : ∀ i, ¬ (Array.replicate (⟨ops⟩ : Array Oper).size false).getD i false = true := by
        intro i
        rw [Array.getD_eq_getD_getElem?]
        cases hc : (Array.replicate (⟨ops⟩ : Array Oper).size false)[i]? with
        | none => simp
        | some x =>
          have := Array.getElem?_replicate (n := (⟨ops⟩ : Array Oper).size) (v := false) (i := i)
          rw [hc] at this
          split at this
          · injection this with this; subst this; simp
          · cases this
      refine ⟨fun j o e hj => absurd hj (no j), hs.nt, rfl, fun t => ⟨0, Nat.zero_le _, fun i o _ _ => ⟨fun h => absurd h (no i), fun h => absurd h (Nat.not_lt_zero _)⟩, by rw [t1]; exact hs.tm t⟩, Nat.zero_le _,
        fun i o _ _ => ⟨fun h => absurd h (no i), fun h => absurd h (Nat.not_lt_zero _)⟩, by rw [t1]; exact hw, by rw [t1]; exact hx, fun i o ho ha _ => ?_⟩
      refine ⟨hlow i o ho ha, ?_, ?_⟩
      · rw [t1]; exact (hnamed i o ho ha).high
      · rw [t1]
  obtain ⟨e', a', w', ⟨rfl, μ', q1, q2⟩, q3⟩ := hwp b kk (csOf c0 cs0 u)
  exact ⟨.normal, _, e3, .normal, a', u, w', μ', q3, .normal, q1, rfl, q2⟩

/-- The machine is sound. -/
theorem run_ok {P : Program} {E : Env} (hm : P.follows .mixedOrders = true) (K : Known E P) (hN : Named E) (hS : SumOK E P)
    {n : Nat} {f : FuncId} {args : List V} {h : Heap} {nx : Nat} {en : AEnd} {h' : Heap} {nx' : Nat} (e : runCall E n f args h nx = some (en, h', nx')) {μ : Mu} {args' : List Value} {w : World} (ha : VL μ args args') (g : G μ h nx w) :
    Enters P f ∧ Calls P f ⟨args'⟩ w fun en' w' => ∃ μ', NR μ' en en' ∧ G μ' h' nx' w' ∧ Ext μ h nx w μ' h' nx' w' :=
  runCall_sim K hN hS (fun _ hC _ => drawOK hm K hC hS) e ha g

end
end Go.AM
