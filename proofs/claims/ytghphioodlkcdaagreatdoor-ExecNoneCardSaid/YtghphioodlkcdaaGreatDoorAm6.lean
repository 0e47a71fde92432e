/- THE ABSTRACT MACHINE, part 6: how memory turns, in the abstract and in the world. -/
import Derived.Test.YtghphioodlkcdaaGreatDoorAm5
import Derived.Laws.IdiomCopy
import Derived.Laws.Append
namespace Go.AM
open Go

theorem setCell_block (w : World) (B o : Nat) (v : Value) (arr : Array Value) (ty : TypeId) (f : Nat × Nat) (h : w.heap[B]? = some (.cells arr ty f)) :
    (w.setCell ⟨B, o, none⟩ v).heap[B]? = some (.cells (arr.setIfInBounds o v) ty f) := by
  simp [World.setCell, Array.getElem?_modify, h]

theorem setCell_other (w : World) (B o : Nat) (v : Value) (C : Nat) (h : C ≠ B) : (w.setCell ⟨B, o, none⟩ v).heap[C]? = w.heap[C]? := by
  simp only [World.setCell, Array.getElem?_modify]
  rw [if_neg (fun e => h e.symm)]

theorem setCells_block (B : Nat) (ty : TypeId) (f : Nat × Nat) : ∀ (vs : List Value) (o : Nat) (w : World) (arr : Array Value), w.heap[B]? = some (.cells arr ty f) → o + vs.length ≤ arr.size →
    ∃ arr', (w.setCells B o vs).heap[B]? = some (.cells arr' ty f) ∧ arr'.size = arr.size ∧ ∀ i, arr'[i]? = if o ≤ i ∧ i < o + vs.length then vs[i - o]? else arr[i]?
  | [], o, w, arr, h, _ => ⟨arr, h, rfl, fun i => by rw [if_neg (by simp only [List.length_nil]; omega)]⟩
  | v :: r, o, w, arr, h, hl => by
    simp only [List.length_cons] at hl
    obtain ⟨arr', h1, h2, h3⟩ := setCells_block B ty f r (o + 1) (w.setCell ⟨B, o, none⟩ v) _ (setCell_block w B o v arr ty f h) (by simp; omega)
    refine ⟨arr', h1, by simpa using h2, fun i => ?_⟩
    rw [h3 i]
    simp only [List.length_cons]
    by_cases e : i = o
    · subst e
      rw [if_neg (by omega), if_pos (by omega), Nat.sub_self]
      simp [show i < arr.size from by omega]
    · by_cases e2 : o + 1 ≤ i ∧ i < o + 1 + r.length
      · rw [if_pos e2, if_pos (by omega)]
        obtain ⟨m, rfl⟩ : ∃ m, i = o + 1 + m := ⟨i - (o + 1), by omega⟩
        rw [show o + 1 + m - (o + 1) = m from by omega, show o + 1 + m - o = m + 1 from by omega, List.getElem?_cons_succ]
      · rw [if_neg e2, if_neg (by omega), Array.getElem?_setIfInBounds, if_neg (fun h => e h.symm)]

theorem setCells_other (B C : Nat) (h : C ≠ B) : ∀ (vs : List Value) (o : Nat) (w : World), (w.setCells B o vs).heap[C]? = w.heap[C]?
  | [], _, _ => rfl
  | v :: r, o, w => by rw [World.setCells, setCells_other B C h r, setCell_other w B o v C h]

theorem setCells_size (B : Nat) : ∀ (vs : List Value) (o : Nat) (w : World), (w.setCells B o vs).heap.size = w.heap.size
  | [], _, _ => rfl
  | v :: r, o, w => by rw [World.setCells, setCells_size B r, World.size_setCell]

theorem setCells_rest (B : Nat) : ∀ (vs : List Value) (o : Nat) (w : World), (w.setCells B o vs).os = w.os ∧ (w.setCells B o vs).output = w.output ∧ (w.setCells B o vs).tape = w.tape
  | [], _, _ => ⟨rfl, rfl, rfl⟩
  | v :: r, o, w => by rw [World.setCells]; exact setCells_rest B r (o + 1) _

theorem alloc_block (w : World) (o : Obj) : (w.alloc o).heap[w.heap.size]? = some o := by
  show (w.heap.push o)[w.heap.size]? = some o
  simp
theorem alloc_other (w : World) (o : Obj) (B : Nat) (h : B < w.heap.size) : (w.alloc o).heap[B]? = w.heap[B]? := by
  simp only [World.alloc, Array.getElem?_push]
  rw [if_neg (Nat.ne_of_lt h)]

/-- A name more. -/
def upd (μ : Mu) (i : Nat) (x : Nat × Nat) : Mu := fun j => if j = i then some x else μ j

theorem upd_same (μ : Mu) (i : Nat) (x : Nat × Nat) : upd μ i x i = some x := if_pos rfl
theorem upd_ne (μ : Mu) {i j : Nat} (x : Nat × Nat) (h : j ≠ i) : upd μ i x j = μ j := if_neg h
theorem upd_mono {μ : Mu} {i : Nat} (x : Nat × Nat) (h : μ i = none) : ∀ j y, μ j = some y → upd μ i x j = some y := by
  intro j y e
  rw [upd_ne]; exact e
  intro hj; subst hj; rw [h] at e; cases e

section
variable {μ : Mu} {h : Heap} {nx : Nat} {w : World}

/-- A new block. -/
theorem G.new (g : G μ h nx w) (blk : Blk) (obj : Obj) (N : Nat) (hb : BR (upd μ nx (w.heap.size, N)) N blk (some obj)) :
    G (upd μ nx (w.heap.size, N)) (h.put nx (some blk)) (nx + 1) (w.alloc obj) ∧ Ext μ h nx w (upd μ nx (w.heap.size, N)) (h.put nx (some blk)) (nx + 1) (w.alloc obj) := by
  have hf := (g.fresh nx (Nat.le_refl _)).1
  have hm := upd_mono (w.heap.size, N) hf
  have hlow : ∀ j B M, upd μ nx (w.heap.size, N) j = some (B, M) → j ≠ nx → B < w.heap.size := fun j B M e hj => g.low j B M (by rwa [upd_ne _ _ hj] at e)
  refine ⟨⟨?_, ?_, ?_, ?_⟩, ⟨hm, Nat.le_succ _, ?_, ?_, ?_, ?_, ?_, ?_, rfl, rfl, rfl⟩⟩
  · intro i b B M e em
    rw [get_put] at e
    by_cases hi : i = nx
    · subst hi
      rw [if_pos rfl] at e; cases e
      rw [upd_same] at em; cases em
      rw [alloc_block]; exact hb
    · rw [if_neg hi] at e
      have hB := hlow i B M em hi
      rw [upd_ne _ _ hi] at em
      rw [alloc_other w obj B hB]
      exact (g.blk i b B M e em).mono hm
  · intro i j bi bj B M K ei ej mi mj
    rw [get_put] at ei ej
    by_cases hi : i = nx
    · by_cases hj : j = nx
      · rw [hi, hj]
      · have := hlow j B K mj hj
        subst hi; rw [upd_same] at mi; cases mi
        omega
    · by_cases hj : j = nx
      · have := hlow i B M mi hi
        subst hj; rw [upd_same] at mj; cases mj
        omega
      · rw [if_neg hi] at ei; rw [if_neg hj] at ej
        rw [upd_ne _ _ hi] at mi; rw [upd_ne _ _ hj] at mj
        exact g.inj i j bi bj B M K ei ej mi mj
  · intro i hi
    rw [get_put, upd_ne _ _ (by omega), if_neg (by omega)]
    exact g.fresh i (by omega)
  · intro i B M e
    rw [World.size_alloc]
    by_cases hi : i = nx
    · subst hi; rw [upd_same] at e; cases e; omega
    · have := hlow i B M e hi; omega
  · intro i hi e
    rw [upd_ne _ _ (by omega)]; exact e
  · intro i hi _; rw [get_put, if_neg (by omega)]
  · intro i b e hr
    rw [get_put, if_neg]; exact e
    intro hi; subst hi; rw [(g.fresh i (Nat.le_refl _)).2] at e; cases e
  · rw [World.size_alloc]; omega
  · intro B hB _; exact alloc_other w obj B hB
  · rintro B hB ⟨i, b, M, e, em, hr⟩
    by_cases hi : i = nx
    · subst hi; rw [upd_same] at em; cases em; omega
    · rw [get_put, if_neg hi] at e
      rw [upd_ne _ _ hi] at em
      exact ⟨i, b, M, e, em, hr⟩

/-- A block's content turns. -/
theorem G.turn (g : G μ h nx w) {b B N : Nat} {blk blk' : Blk} {w' : World} (hb : h.get b = some blk) (hm : μ b = some (B, N)) (hr : blk.ro = false)
    (hs : w'.heap.size = w.heap.size) (ho : ∀ C, C ≠ B → w'.heap[C]? = w.heap[C]?) (hB : BR μ N blk' w'.heap[B]?) (h1 : w'.os = w.os) (h2 : w'.output = w.output) (h3 : w'.tape = w.tape) :
    G μ (h.put b (some blk')) nx w' ∧ Ext μ h nx w μ (h.put b (some blk')) nx w' := by
  have hbn : b < nx := Nat.lt_of_not_le fun hle => by rw [(g.fresh b hle).1] at hm; cases hm
  refine ⟨⟨?_, ?_, ?_, ?_⟩, ⟨fun _ _ e => e, Nat.le_refl _, fun _ _ e => e, ?_, ?_, by omega, ?_, ?_, h1, h2, h3⟩⟩
  · intro i x C M e em
    rw [get_put] at e
    by_cases hi : i = b
    · subst hi
      rw [if_pos rfl] at e; cases e
      rw [hm] at em; cases em
      exact hB
    · rw [if_neg hi] at e
      have : C ≠ B := fun hC => hi (by subst hC; exact g.inj i b x blk C M N e hb em hm)
      rw [ho C this]
      exact g.blk i x C M e em
  · intro i j bi bj C M K ei ej mi mj
    rw [get_put] at ei ej
    by_cases hi : i = b
    · by_cases hj : j = b
      · rw [hi, hj]
      · rw [if_neg hj] at ej; subst hi; exact g.inj i j blk bj C M K hb ej mi mj
    · by_cases hj : j = b
      · rw [if_neg hi] at ei; subst hj; exact g.inj i j bi blk C M K ei hb mi mj
      · rw [if_neg hi] at ei; rw [if_neg hj] at ej; exact g.inj i j bi bj C M K ei ej mi mj
  · intro i hi
    rw [get_put, if_neg (by omega)]; exact g.fresh i hi
  · intro i C M e; rw [hs]; exact g.low i C M e
  · intro i hi e
    rw [get_put, if_neg]
    intro hb'; subst hb'; rw [hm] at e; cases e
  · intro i x e hx
    rw [get_put, if_neg]; exact e
    intro hb'; subst hb'; rw [hb] at e; cases e; rw [hr] at hx; cases hx
  · intro C hC hn
    exact ho C fun e => hn ⟨b, blk, N, hb, by rw [e]; exact hm, hr⟩
  · rintro C hC ⟨i, x, M, e, em, hx⟩
    rw [get_put] at e
    by_cases hi : i = b
    · subst hi; exact ⟨i, blk, M, hb, em, hr⟩
    · rw [if_neg hi] at e; exact ⟨i, x, M, e, em, hx⟩

/-- A block is given up. -/
theorem G.drop (g : G μ h nx w) {b B N : Nat} {blk : Blk} (hb : h.get b = some blk) (hm : μ b = some (B, N)) (hr : blk.ro = false) :
    G μ (h.put b none) nx w ∧ Ext μ h nx w μ (h.put b none) nx w := by
  have hbn : b < nx := Nat.lt_of_not_le fun hle => by rw [(g.fresh b hle).1] at hm; cases hm
  have get : ∀ i x, (h.put b none).get i = some x → h.get i = some x := fun i x e => by
    rw [get_put] at e
    by_cases hi : i = b
    · rw [if_pos hi] at e; cases e
    · rwa [if_neg hi] at e
  refine ⟨⟨?_, ?_, ?_, g.low⟩, ⟨fun _ _ e => e, Nat.le_refl _, fun _ _ e => e, ?_, ?_, Nat.le_refl _, fun _ _ _ => rfl, ?_, rfl, rfl, rfl⟩⟩
  · intro i x C M e em; exact g.blk i x C M (get i x e) em
  · intro i j bi bj C M K ei ej mi mj; exact g.inj i j bi bj C M K (get i _ ei) (get j _ ej) mi mj
  · intro i hi
    rw [get_put]
    by_cases h' : i = b
    · rw [if_pos h']; exact ⟨(g.fresh i hi).1, rfl⟩
    · rw [if_neg h']; exact g.fresh i hi
  · intro i hi e
    rw [get_put, if_neg]
    intro hb'; subst hb'; rw [hm] at e; cases e
  · intro i x e hx
    rw [get_put, if_neg]; exact e
    intro hb'; subst hb'; rw [hb] at e; cases e; rw [hr] at hx; cases hx
  · rintro C hC ⟨i, x, M, e, em, hx⟩
    exact ⟨i, x, M, get i x e, em, hx⟩

/-- A block turns, and goes by a new name. -/
theorem G.move (g : G μ h nx w) {b B N : Nat} {blk blk' : Blk} {w' : World} (hb : h.get b = some blk) (hm : μ b = some (B, N)) (hr : blk.ro = false)
    (hs : w'.heap.size = w.heap.size) (ho : ∀ C, C ≠ B → w'.heap[C]? = w.heap[C]?) (hB : BR (upd μ nx (B, N)) N blk' w'.heap[B]?) (h1 : w'.os = w.os) (h2 : w'.output = w.output) (h3 : w'.tape = w.tape) :
    G (upd μ nx (B, N)) ((h.put b none).put nx (some blk')) (nx + 1) w' ∧ Ext μ h nx w (upd μ nx (B, N)) ((h.put b none).put nx (some blk')) (nx + 1) w' := by
  have hbn : b < nx := Nat.lt_of_not_le fun hle => by rw [(g.fresh b hle).1] at hm; cases hm
  have hf := (g.fresh nx (Nat.le_refl _)).1
  have hmo := upd_mono (B, N) hf
  have get : ∀ i x, i ≠ nx → ((h.put b none).put nx (some blk')).get i = some x → i ≠ b ∧ h.get i = some x := fun i x hi e => by
    rw [get_put, if_neg hi, get_put] at e
    by_cases h' : i = b
    · rw [if_pos h'] at e; cases e
    · rw [if_neg h'] at e; exact ⟨h', e⟩
  have apart : ∀ i x C M, i ≠ b → h.get i = some x → μ i = some (C, M) → C ≠ B := fun i x C M hi e em hC => hi (by subst hC; exact g.inj i b x blk C M N e hb em hm)
  refine ⟨⟨?_, ?_, ?_, ?_⟩, ⟨hmo, Nat.le_succ _, ?_, ?_, ?_, by omega, ?_, ?_, h1, h2, h3⟩⟩
  · intro i x C M e em
    by_cases hi : i = nx
    · subst hi
      rw [get_put_same] at e; cases e
      rw [upd_same] at em; cases em
      exact hB
    · obtain ⟨hib, e'⟩ := get i x hi e
      rw [upd_ne _ _ hi] at em
      rw [ho C (apart i x C M hib e' em)]
      exact (g.blk i x C M e' em).mono hmo
  · intro i j bi bj C M K ei ej mi mj
    by_cases hi : i = nx
    · by_cases hj : j = nx
      · rw [hi, hj]
      · obtain ⟨hjb, ej'⟩ := get j bj hj ej
        rw [upd_ne _ _ hj] at mj
        subst hi; rw [upd_same] at mi; cases mi
        exact absurd rfl (apart j bj B K hjb ej' mj)
    · obtain ⟨hib, ei'⟩ := get i bi hi ei
      rw [upd_ne _ _ hi] at mi
      by_cases hj : j = nx
      · subst hj; rw [upd_same] at mj; cases mj
        exact absurd rfl (apart i bi B M hib ei' mi)
      · obtain ⟨_, ej'⟩ := get j bj hj ej
        rw [upd_ne _ _ hj] at mj
        exact g.inj i j bi bj C M K ei' ej' mi mj
  · intro i hi
    rw [get_put, if_neg (by omega), get_put, if_neg (by omega), upd_ne _ _ (by omega)]
    exact g.fresh i (by omega)
  · intro i C M e
    rw [hs]
    by_cases hi : i = nx
    · subst hi; rw [upd_same] at e; cases e; exact g.low b B N hm
    · rw [upd_ne _ _ hi] at e; exact g.low i C M e
  · intro i hi e; rw [upd_ne _ _ (by omega)]; exact e
  · intro i hi e
    rw [get_put, if_neg (by omega), get_put, if_neg]
    intro hb'; subst hb'; rw [hm] at e; cases e
  · intro i x e hx
    have hi : i ≠ nx := fun hi => by subst hi; rw [(g.fresh i (Nat.le_refl _)).2] at e; cases e
    rw [get_put, if_neg hi, get_put, if_neg]; exact e
    intro hb'; subst hb'; rw [hb] at e; cases e; rw [hr] at hx; cases hx
  · intro C hC hn
    exact ho C fun e => hn ⟨b, blk, N, hb, by rw [e]; exact hm, hr⟩
  · rintro C hC ⟨i, x, M, e, em, hx⟩
    by_cases hi : i = nx
    · subst hi; rw [upd_same] at em; cases em; exact ⟨b, blk, N, hb, hm, hr⟩
    · obtain ⟨_, e'⟩ := get i x hi e
      rw [upd_ne _ _ hi] at em
      exact ⟨i, x, M, e', em, hx⟩
end

/-- What an operation's word on memory says. -/
def EffS (f : Eff) (h : Heap) (nx : Nat) (h' : Heap) (nx' : Nat) : Prop := match f with
  | .no => h' = h ∧ nx' = nx
  | .new l => h' = h.put nx (some (.cells (putL .e l 0) l.length false)) ∧ nx' = nx + 1
  | .wr b off l => ∃ c n ro, h.get b = some (.cells c n ro) ∧ h' = h.put b (some (.cells (putL c l off) n ro)) ∧ nx' = nx
  | .mv b k l => ∃ c n ro, h.get b = some (.cells c n ro) ∧ h' = (h.put b none).put nx (some (.cells (putL c l k) (k + l.length) false)) ∧ nx' = nx + 1
  | .upd b x => h' = h.put b (some x) ∧ nx' = nx
  | .mk x => h' = h.put nx (some x) ∧ nx' = nx + 1

theorem effK_some {R : Type} {f : Eff} {h : Heap} {nx : Nat} {k : Heap → Nat → Option R} {r : R} (e : effK f h nx k = some r) : ∃ h' nx', k h' nx' = some r ∧ EffS f h nx h' nx' := by
  cases f with
  | no => exact ⟨h, nx, e, rfl, rfl⟩
  | new l =>
    simp only [effK, putsK_eq, fN_eq, putK_eq, lenL_eq] at e
    exact ⟨_, _, e, rfl, rfl⟩
  | wr b off l =>
    simp only [effK] at e
    split at e
    · rename_i c n ro hb
      simp only [putsK_eq, putK_eq] at e
      exact ⟨_, _, e, c, n, ro, hb, rfl, rfl⟩
    · cases e
  | mv b k' l =>
    simp only [effK] at e
    split at e
    · rename_i c n ro hb
      simp only [putsK_eq, putK_eq, fN_eq, lenL_eq] at e
      exact ⟨_, _, e, c, n, ro, hb, rfl, rfl⟩
    · cases e
  | upd b x => simp only [effK, putK_eq] at e; exact ⟨_, _, e, rfl, rfl⟩
  | mk x => simp only [effK, putK_eq, fN_eq] at e; exact ⟨_, _, e, rfl, rfl⟩

end Go.AM
