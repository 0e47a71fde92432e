/- THE ABSTRACT MACHINE, part 32: a closed run, as a contract. -/
import Derived.Test.YtghphioodlkcdaaGreatDoorAm31
import Derived.RowKit
import Derived.Below
import Derived.ChangeSame
namespace Go.AM
open Go Go.RowKit

/-- Nothing is mapped yet. -/
def noMu : Mu := fun _ => none
theorem G.none (w : World) : G noMu .e 0 w := ⟨fun i b B N h => (by rw [get_e] at h; cases h), fun i j bi bj B N M h => (by rw [get_e] at h; cases h), fun i _ => ⟨rfl, get_e i⟩, fun i B N h => by cases h⟩

theorem Ext.below {h' : Heap} {nx' : Nat} {μ' : Mu} {w w' : World} (x : Ext noMu .e 0 w μ' h' nx' w') : Below w.heap.size w w' :=
  ⟨x.os, x.tape, x.out, x.size, fun k hk => x.keep k hk (fun ⟨i, b, N, e, _⟩ => by rw [get_e] at e; cases e)⟩

theorem endsIn_spec {b : Bool} {r : Option (AEnd × Heap × Nat)} (h : endsIn b r = true) : ∃ hp nx, r = some (.ret (.b b), hp, nx) := by
  unfold endsIn at h
  split at h
  · rename_i c hp nx
    refine ⟨hp, nx, ?_⟩
    have : c = b := by revert h; cases b <;> cases c <;> intro h <;> first | rfl | cases h
    rw [this]
  · cases h

/-- A closed run that answers a truth. -/
theorem run_truth {P : Program} {E : Env} (hm : P.follows .mixedOrders = true) (K : Known E P) (hN : Named E) (hS : SumOK E P) {n : Nat} {f : FuncId} {args : List V} {b : Bool} (e : endsIn b (runCall E n f args .e 0) = true) {args' : List Value} (ha : VL noMu args args') (w : World) :
    Calls P f ⟨args'⟩ w fun en w' => en = .returned (.bool b) ∧ Below w.heap.size w w' := by
  obtain ⟨hp, nx, e⟩ := endsIn_spec e
  refine (run_ok hm K hN hS e ha (G.none w)).2.mono fun en w' ⟨μ', h1, h2, h3⟩ => ⟨?_, h3.below⟩
  cases h1 with | ret hv => cases hv; rfl

/-- No summaries. -/
theorem sum_none {E : Env} {P : Program} (h : E.sum = .e) : SumOK E P := fun f s hs => by rw [h, get_e] at hs; cases hs

/-- Of one summary. -/
theorem sum_of {E : Env} {P : Program} {L : List (Nat × (List V → Heap → Option V))} (k : E.sum.okD 6 = true) (h : E.sum.ents = L) (hL : ∀ p ∈ L, ∀ args h v, p.2 args h = some v → ∀ (μ : Mu) (nx : Nat) (w : World) (args' : List Value), VL μ args args' → G μ h nx w →
    (∃ v', (callFunc p.1 ⟨args'⟩).run P w = .ok (.value v') w ∧ VR μ v v') ∨
    (Enters P p.1 ∧ Calls P p.1 ⟨args'⟩ w fun en w' => ∃ v' μ', en = .returned v' ∧ VR μ' v v' ∧ G μ' h nx w' ∧ Ext μ h nx w μ' h nx w')) : SumOK E P :=
  fun f s hs => hL (f, s) (h ▸ ents_mem k _ _ hs)

section
variable {H : Type} {enc : TypeId × Value → H} {P : Program}
open Go.WideShapes Go.ChangeShapes
/-- The row's last step, of a world that is as it was below. -/
theorem post_of_below {f : Func} {s : ChangeSpec} {apart fresh handsOn again : Bool} {W W' : World} {args : Array Value} {v : Value} {ds gs : List (DataW H)} {before pa pv : List MemPlace}
    (hW : DataW.Whole enc P f.params.toList s.vars apart W args.toList ds gs before)
    (hres : ∀ (b : Nat) (sp : Nat → Bool) (hd : Bool), DataW.TrodAll enc P W' b sp hd f.resultTypes.toList (v.resultList f.resultTypes.size) (s.fn H (ds ++ gs)).results [])
    (hargs : ∀ sp : Nat → Bool, (∀ p ∈ before, sp p.block = true) → DataW.TrodAll enc P W' 0 sp true f.params.toList args.toList (s.fn H (ds ++ gs)).args pa)
    (hvars : ∀ sp : Nat → Bool, (∀ p ∈ before, sp p.block = true) → DataW.TrodVars enc P W' sp s.vars (s.fn H (ds ++ gs)).vars pv)
    (hps : before = pa ++ pv) (hb : Below W.heap.size W W')
    (hok : ∀ (j : Nat) (t : TypeId) (r : Value), f.resultTypes[j]? = some t → (v.resultList f.resultTypes.size)[j]? = some r → Value.okWide P W' .any 0 t r) :
    s.post enc P f apart fresh handsOn again W args v W' := by
  have hlt : ∀ p ∈ before, p.block < W.heap.size := fun p hp => hW.lt p hp
  have hold : ∀ p ∈ before, (fun b => decide (b < W.heap.size)) p.block = true := fun p hp => by simpa using hlt p hp
  refine ⟨ds, gs, before, [], pa, pv, hW, hres _ _ _, hargs _ hold, hvars _ hold, World.keptBut_mono (fun p hp => ⟨hp, ?_⟩) (hb.frame (· ∈ before)), fun _ => ?_⟩
  · rw [hps, List.mem_append] at hp
    exact Or.inr hp
  · obtain ⟨_, _, _, _, _, hz, hn⟩ := hW
    refine ⟨hok, _, _, ([] ++ pa) ++ pv, ⟨[] ++ pa, pv, trodAll_append (hargs _ (fun _ _ => rfl)) (hres _ _ _), hvars _ (fun _ _ => rfl), rfl, ?_, ?_⟩, ?_⟩
    · intro b off hp
      have hin : MemPlace.cell b off ∈ before := by rw [hps]; simpa using hp
      rw [hb.frozen (hlt _ hin)]
      exact hz b off hin
    · intro ha
      have := hn ha
      rw [hps] at this
      simpa using this
    · intro p hp _
      rw [hps]
      simpa using hp
end
end Go.AM
