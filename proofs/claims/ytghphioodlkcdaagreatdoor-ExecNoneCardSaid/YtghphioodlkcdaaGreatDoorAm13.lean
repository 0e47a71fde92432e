/- THE ABSTRACT MACHINE, part 13: operations that make or write memory. -/
import Derived.Test.YtghphioodlkcdaaGreatDoorAm12
namespace Go.AM
open Go

/-- A computation that yields a value and turns memory as an effect says. -/
def ValE (P : Program) (μ : Mu) (h : Heap) (nx : Nat) (w : World) (s : Sem Value) (v : V) (f : Eff) : Prop :=
  ∀ h' nx', EffS f h nx h' nx' → ∃ v' w' μ', s.run P w = .ok v' w' ∧ VR μ' v v' ∧ G μ' h' nx' w' ∧ Ext μ h nx w μ' h' nx' w'

/-- The same, of one that yields nothing. -/
def UnitE (P : Program) (μ : Mu) (h : Heap) (nx : Nat) (w : World) (s : Sem Unit) (f : Eff) : Prop :=
  ∀ h' nx', EffS f h nx h' nx' → ∃ w' μ', s.run P w = .ok () w' ∧ G μ' h' nx' w' ∧ Ext μ h nx w μ' h' nx' w'

section
variable {P : Program} {μ : Mu} {h : Heap} {nx : Nat} {w : World} (g : G μ h nx w)
include g

theorem ValE.of_val {s : Sem Value} {v : V} (hv : Val P μ w s v) : ValE P μ h nx w s v .no := by
  rintro h' nx' ⟨rfl, rfl⟩
  obtain ⟨v', h1, h2⟩ := hv
  exact ⟨v', w, μ, h1, h2, g, Ext.refl _ _ _ _⟩

/-- New cells, and perhaps more behind them. -/
theorem new_cells {l : List V} (arr : Array Value) (ty : TypeId) (lo hi : Nat) (hl : l.length ≤ arr.size) (hf : lo = hi ∨ arr.size ≤ lo) (hr : ∀ (i : Nat) (v : V), l[i]? = some v → ∃ v', arr[i]? = some v' ∧ VR μ v v') :
    G (upd μ nx (w.heap.size, arr.size)) (h.put nx (some (.cells (putL .e l 0) l.length false))) (nx + 1) (w.alloc (.cells arr ty (lo, hi))) ∧
    Ext μ h nx w (upd μ nx (w.heap.size, arr.size)) (h.put nx (some (.cells (putL .e l 0) l.length false))) (nx + 1) (w.alloc (.cells arr ty (lo, hi))) := by
  refine g.new _ _ arr.size ⟨arr, ty, lo, hi, rfl, rfl, hl, hf, fun i hi => ?_⟩
  obtain ⟨v', h1, h2⟩ := hr i l[i] (List.getElem?_eq_getElem hi)
  refine ⟨v', h1, ?_⟩
  rw [rd_putL, if_pos (by omega), Nat.sub_zero, List.getElem?_eq_getElem hi]
  exact h2.mono (upd_mono _ (g.fresh nx (Nat.le_refl _)).1)

theorem new_row {l : List V} {l' : List Value} (ty : TypeId) (hl : VL μ l l') :
    G (upd μ nx (w.heap.size, l'.length)) (h.put nx (some (.cells (putL .e l 0) l.length false))) (nx + 1) (w.alloc (.cells ⟨l'⟩ ty (0, 0))) ∧
    Ext μ h nx w (upd μ nx (w.heap.size, l'.length)) (h.put nx (some (.cells (putL .e l 0) l.length false))) (nx + 1) (w.alloc (.cells ⟨l'⟩ ty (0, 0))) :=
  new_cells g ⟨l'⟩ ty 0 0 (Nat.le_of_eq hl.length) (.inl rfl) (fun i v e => by simpa using hl.get i v e)

omit g in
theorem run_newRow' (ty : TypeId) (l' : Array Value) : (newRow ty l').run P w = .ok ⟨w.heap.size, 0, none⟩ (w.alloc (.cells l' ty (0, 0))) := by
  simp [newRow]

/-- A box of a value. -/
theorem alloc_sim {ty : TypeId} {v : V} {v' : Value} (hv : VR μ v v') (hk : cellsOk (cellsL v) = true) :
    ValE P μ h nx w (do pure (.pointer (some (← newVar ty v')))) (.p nx 0) (.new (cellsL v)) := by
  rintro h' nx' ⟨rfl, rfl⟩
  have hl := cellsL_rel hv (cells_ne_junk hk)
  obtain ⟨h1, h2⟩ := new_row g ty hl
  refine ⟨_, _, _, by simp [newVar, newRow], .p 0 (upd_same _ _ _), h1, h2⟩

theorem alloc_simL {ty : TypeId} {l : List V} {v' : Value} (hl : VL μ l v'.cells.toList) :
    ValE P μ h nx w (do pure (.pointer (some (← newVar ty v')))) (.p nx 0) (.new l) := by
  rintro h' nx' ⟨rfl, rfl⟩
  obtain ⟨h1, h2⟩ := new_row g ty hl
  exact ⟨_, _, _, by simp [newVar, newRow], .p 0 (upd_same _ _ _), h1, h2⟩

omit g in
/-- Cells are written. -/
theorem stOk_some {b off : Nat} {l : List V} (hs : stOk h b off l = true) : ∃ c m, h.get b = some (.cells c m false) ∧ off + l.length ≤ m ∧ cellsOk l = true := by
  unfold stOk at hs
  split at hs
  · rename_i c m ro hb
    cases ro with
    | true => cases hs
    | false =>
      have hs : ifB (Nat.ble (Nat.add off (lenL l)) m) (cellsOk l) false = true := hs
      rw [ifB_eq] at hs
      split at hs
      · rename_i hle
        have hle := ble_true.1 hle
        rw [lenL_eq] at hle
        exact ⟨c, m, hb, hle, hs⟩
      · cases hs
  · cases hs

theorem store_sim {b B N off m : Nat} {c : T V} {l : List V} {l' : List Value} (hb : h.get b = some (.cells c m false)) (hm : μ b = some (B, N)) (hle : off + l.length ≤ N) (hl : VL μ l l') (hk : cellsOk l = true)
    (n : Nat) (hn2 : ∀ i, i < n → i < m ∨ (off ≤ i ∧ i < off + l.length)) :
    ∃ arr' ty lo hi, (storeCells ⟨B, off, none⟩ l').run P w = .ok () (w.setCells B off l') ∧ (w.setCells B off l').heap[B]? = some (.cells arr' ty (lo, hi)) ∧ arr'.size = N ∧ (lo = hi ∨ N ≤ lo) ∧
      (∀ i, i < n → ∃ v', arr'[i]? = some v' ∧ VR μ (rd (putL c l off) i) v') := by
  obtain ⟨arr, ty, lo, hi, hw, hN, hmN, hf, hc⟩ := cells_of g hb hm
  have hll := hl.length
  have hrun : (storeCells ⟨B, off, none⟩ l').run P w = .ok () (w.setCells B off l') := by
    have := run_storeCells_cells (P := P) B off l' 0 w (fun j hj => by
        rw [cell_at hw]
        have : off + j < arr.size := by omega
        simp [this]) (fun j hj => frozen_at hw _ (by omega)) (fun v hv => by
        obtain ⟨i, hi, rfl⟩ := List.getElem_of_mem hv
        have hi' : i < l.length := by omega
        obtain ⟨u, hu, hr⟩ := hl.get i l[i] (List.getElem?_eq_getElem hi')
        rw [List.getElem?_eq_getElem hi] at hu
        injection hu with hu
        rw [hu]
        exact cellOk_one hr (cellsOk_all hk _ (List.getElem_mem hi')))
    simpa using this
  obtain ⟨arr', h1, h2, h3⟩ := setCells_block B ty (lo, hi) l' off w arr hw (by omega)
  refine ⟨arr', ty, lo, hi, hrun, h1, by omega, hf, fun i hi' => ?_⟩
  rw [h3 i, rd_putL]
  by_cases hin : off ≤ i ∧ i < off + l.length
  · rw [if_pos hin, if_pos (by omega)]
    have hlt : i - off < l.length := by omega
    obtain ⟨u, hu, hr⟩ := hl.get (i - off) l[i - off] (List.getElem?_eq_getElem hlt)
    rw [List.getElem?_eq_getElem hlt]
    exact ⟨u, hu, hr⟩
  · rw [if_neg hin, if_neg (by omega)]
    rcases hn2 i hi' with h' | h'
    · exact hc i h'
    · exact absurd h' hin

theorem wr_sim {b off : Nat} {l : List V} {l' : List Value} {B N : Nat} (hs : stOk h b off l = true) (hm : μ b = some (B, N)) (hl : VL μ l l') : UnitE P μ h nx w (storeCells ⟨B, off, none⟩ l') (.wr b off l) := by
  rintro h' nx' ⟨c0, n0, ro0, hb0, rfl, rfl⟩
  obtain ⟨c, m, hb, hle, hk⟩ := stOk_some hs
  rw [hb] at hb0
  injection hb0 with hb0
  injection hb0 with e1 e2 e3
  subst e1 e2 e3
  obtain ⟨_, _, _, _, hw, hN, hmN, _, _⟩ := cells_of g hb hm
  have hle' : off + l.length ≤ N := Nat.le_trans hle hmN
  obtain ⟨arr', ty, lo, hi, hrun, h1, h2, h3, h4⟩ := store_sim (P := P) g hb hm hle' hl hk m (fun i hi => .inl hi)
  obtain ⟨r1, r2, r3⟩ := setCells_rest B l' off w
  obtain ⟨q1, q2⟩ := g.turn (blk' := .cells (putL c l off) m false) hb hm rfl (setCells_size B l' off w) (fun C hC => setCells_other B C hC l' off w) ⟨arr', ty, lo, hi, h1, h2, hmN, h3, h4⟩ r1 r2 r3
  exact ⟨_, μ, hrun, q1, q2⟩

end

section
variable {P : Program} {μ : Mu} {h : Heap} {nx : Nat} {w : World} {E : Env} (K : Known E P) (g : G μ h nx w)
include K g

theorem oAllocT_sim {t : TypeId} {v : V} {f : Eff} (e : oAllocT E t nx = .val v f) : ValE P μ h nx w (Instr.alloc t true (.tuple #[])) v f := by
  unfold oAllocT at e
  split at e
  · rename_i i d hi
    split at e
    · rename_i z hz
      obtain ⟨zv, h1, _, h3⟩ := zeroL_rel (w := w) (μ := μ) K hi hz
      unfold oAlloc at e
      rw [ifB_eq] at e
      split at e
      · injection e with e1 e2
        subst e1 e2
        have := alloc_simL (P := P) (ty := t) g h3
        intro h' nx' hs
        obtain ⟨v', w', μ', a, b⟩ := this h' nx' hs
        exact ⟨v', w', μ', by simp only [Instr.alloc, Sem.run_bind, h1, Result.andThen_ok]; simpa using a, b⟩
      · cases e
    · cases e
  · cases e

omit K in
theorem oBox_sim {t : TypeId} {x : V} {x' : Value} {v : V} {f : Eff} (hx : VR μ x x') (e : oAlloc (cellsL x) nx = .val v f) : ValE P μ h nx w (Instr.box t x') v f := by
  unfold oAlloc at e
  rw [ifB_eq] at e
  split at e
  · rename_i hk
    injection e with e1 e2
    subst e1 e2
    exact alloc_sim g hx hk
  · cases e

theorem oStore_sim {t : TypeId} {a x : V} {a' x' : Value} {v : V} {f : Eff} (ha : VR μ a a') (hx : VR μ x x') (e : oStore E t a x h = .val v f) : v = undefV ∧ UnitE P μ h nx w (Instr.storeAt t a' x') f := by
  unfold oStore at e
  cases a <;> first | (cases e; done) | skip
  rename_i b off
  have e : (match E.ty.get t with
    | some i => ifB (Nat.beq (lenL (cellsL x)) i.1.size) (ifB (stOk h b off (cellsL x)) (.val undefV (.wr b off (cellsL x))) .stuck) .stuck
    | none => .stuck) = ORes.val v f := e
  cases ha with | p _ hm =>
  split at e
  · rename_i i hi
    obtain ⟨hinf, _⟩ := K.ty t i.1 i.2 hi
    rw [ifB_eq, ifB_eq] at e
    split at e
    · rename_i hsz
      split at e
      · rename_i hs
        injection e with e1 e2
        subst e1 e2
        have hk := (stOk_some hs).choose_spec.choose_spec.2.2
        have hl := cellsL_rel hx (cells_ne_junk hk)
        have hsz := beq_true.1 hsz
        rw [lenL_eq] at hsz
        have hn : x'.cells.size = i.1.size := by rw [← hsz, hl.length]; rfl
        refine ⟨rfl, ?_⟩
        intro h' nx' hs'
        obtain ⟨w', μ', h1, h2⟩ := wr_sim (P := P) g hs hm hl h' nx' hs'
        exact ⟨w', μ', by simp [Instr.storeAt, Instr.sureAddr, storeVar, run_size hinf, hn, h1], h2⟩
      · cases e
    · cases e
  · cases e

theorem oBuildSlice_sim {t : TypeId} {len : Nat} {parts : List (Nat × V)} {parts' : List (Nat × Value)} {v : V} {f : Eff} (hp : PR μ parts parts') (e : oBuildSlice E t len parts nx = .val v f) :
    ValE P μ h nx w (Instr.buildSlice t len parts'.toArray) v f := by
  unfold oBuildSlice at e
  split at e
  · rename_i i elem hi
    obtain ⟨_, hu⟩ := K.ty t i _ hi
    split at e
    · rename_i ei hei
      obtain ⟨ei, ed⟩ := ei
      obtain ⟨hinf, _⟩ := K.ty elem ei ed hei
      split at e
      · rename_i z hz
        obtain ⟨zv, hz1, hz2, hz3⟩ := zeroL_rel (w := w) (μ := μ) K hei hz
        rw [ifB_eq, ifB_eq, ifB_eq] at e
        split at e
        · rename_i hok
          have hj := okParts_known hok
          split at e
          · rename_i hzl
            have hzl := beq_true.1 hzl
            rw [lenL_eq] at hzl
            split at e
            · rename_i hlim
              have hlim := ble_true.1 hlim
              split at e
              · rename_i l hf
                rw [ifB_eq, ifB_eq] at e
                split at e
                · rename_i hk
                  split at e
                  case isFalse => cases e
                  rename_i hcap
                  have hcap := ble_true.1 hcap
                  injection e with e1 e2
                  subst e1 e2
                  have hzs : zv.cells.size = ei.size := by
                    have h1 := hz3.length
                    have h2 : z.length = ei.size := hzl
                    show zv.cells.toList.length = _
                    omega
                  have hlim : len * ei.size ≤ 16777216 := hlim
                  have hrep : VL μ (repL z len) ((List.range (len * ei.size)).map fun x => zv.cells[x % zv.cells.size]!) := by
                    have h0 := zeros_eq zv.cells.toList len
                    have : (List.range (len * ei.size)).map (fun x => zv.cells[x % zv.cells.size]!) = (List.replicate len zv.cells.toList).flatten := by
                      rw [← h0]
                      have hl' : zv.cells.toList.length = ei.size := hzs
                      rw [hl', hzs]
                    rw [this]
                    exact repL_rel hz3 len
                  have hfin : ∀ cells : Array Value, cells.toList = (List.range (len * ei.size)).map (fun x => zv.cells[x % zv.cells.size]!) → ∃ c', Instr.fill (fun i => some (i * ei.size, ei.size)) cells parts' = some c' ∧ VL μ l c'.toList := fun cells hc =>
                    fillL_sim (place' := fun i => some (i * ei.size, ei.size)) (fun _ _ hx => hx) hp hj (by rw [hc]; exact hrep) hf
                  rintro h' nx' ⟨rfl, rfl⟩
                  by_cases h0 : len * ei.size = 0
                  · obtain ⟨c', hc1, hc2⟩ := hfin (Array.map (fun _ => (default : Value)) (Array.range 0)) (by rw [h0]; simp)
                    obtain ⟨q1, q2⟩ := new_row g elem hc2
                    refine ⟨_, _, _, ?_, .sl 0 len len (upd_same _ _ _) ?_, q1, q2⟩
                    · simp [Instr.buildSlice, run_und hu, run_size hinf, h0, hc1, newRow]
                    · exact hcap
                  · obtain ⟨c', hc1, hc2⟩ := hfin (Array.map (fun x => zv.cells[x % zv.cells.size]!) (Array.range (len * ei.size))) (by simp)
                    obtain ⟨q1, q2⟩ := new_row g elem hc2
                    refine ⟨_, _, _, ?_, .sl 0 len len (upd_same _ _ _) ?_, q1, q2⟩
                    · have hng : ¬ (len * ei.size > 2 ^ 24) := by omega
                      simp [Instr.buildSlice, run_und hu, run_size hinf, h0, hng, hz1, hc1, newRow]
                    · exact hcap
                · cases e
              · cases e
            · cases e
          · cases e
        · cases e
      · cases e
    · cases e
  · cases e

end

end Go.AM
