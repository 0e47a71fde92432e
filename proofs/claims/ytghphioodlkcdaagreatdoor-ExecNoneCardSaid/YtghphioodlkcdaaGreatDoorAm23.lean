/- THE ABSTRACT MACHINE, part 23: what an operation looks at. -/
import Derived.Test.YtghphioodlkcdaaGreatDoorAm22
namespace Go.AM
open Go

section
variable {E : Env} {R : Type} {tm tm' : T V} {h : Heap} {nx : Nat} {kv : V → Option R} {ke : ORes → Option R}

theorem evs_congr {l : List Operand} (hh : ∀ x ∈ l, ev tm x = ev tm' x) : evs tm l = evs tm' l := by
  induction l with
  | nil => rfl
  | cons x r ih =>
    show ev tm x :: evs tm r = ev tm' x :: evs tm' r
    rw [hh x (.head _), ih fun y hy => hh y (.tail _ hy)]

theorem partsV_congr {l : Array (Nat × Operand)} (hh : ∀ x ∈ l.map (·.2), ev tm x = ev tm' x) : partsV tm l = partsV tm' l := by
  obtain ⟨l⟩ := l
  unfold partsV
  rw [mapL_eq, mapL_eq]
  refine List.map_congr_left fun p hp => ?_
  rw [hh p.2 (Array.mem_map.2 ⟨p, by simpa using hp, rfl⟩)]

theorem optE_congr {o : Option Operand} (hh : ∀ x, o = some x → ev tm x = ev tm' x) : optE tm o = optE tm' o := by
  cases o with
  | none => rfl
  | some x => exact congrArg some (hh x rfl)

/-- An operation sees its operands alone. -/
theorem opR_congr {o : Op} (hh : ∀ x ∈ o.operands, ev tm x = ev tm' x) : opR E o tm h nx kv ke = opR E o tm' h nx kv ke := by
  have call : ∀ c : Call, (∀ x ∈ c.operands, ev tm x = ev tm' x) → callOpK E c tm h nx kv ke = callOpK E c tm' h nx kv ke ∧ oDefer c tm = oDefer c tm' := by
    intro c hc
    obtain ⟨callee, ⟨args⟩, ats⟩ := c
    have ha : evs tm args = evs tm' args := evs_congr fun x hx => hc x (by simp [Call.operands, hx])
    cases callee with
    | value f =>
      have hf : ev tm f = ev tm' f := hc f (by simp [Call.operands])
      constructor
      · show ke (oCallV (ev tm f) (evs tm args)) = ke (oCallV (ev tm' f) (evs tm' args))
        rw [hf, ha]
      · show asF (ev tm f) ORes.stuck (fun g first cap => ORes.dfr g (appL first (appL (evs tm args) cap))) = asF (ev tm' f) ORes.stuck (fun g first cap => ORes.dfr g (appL first (appL (evs tm' args) cap)))
        rw [hf, ha]
    | invoke r m => exact ⟨rfl, rfl⟩
    | builtin b =>
      constructor
      · show builtinK E b ats.toList (evs tm args) h nx kv ke = builtinK E b ats.toList (evs tm' args) h nx kv ke
        rw [ha]
      · rfl
  cases o <;> simp only [Op.operands] at hh <;> first | rfl | skip
  case move x => show fH (ev tm x) kv = fH (ev tm' x) kv; rw [hh x (by simp)]
  case assign x => show fH (ev tm x) kv = fH (ev tm' x) kv; rw [hh x (by simp)]
  case pick c x y => show pickK (ev tm c) (ev tm x) (ev tm y) kv = pickK (ev tm' c) (ev tm' x) (ev tm' y) kv; rw [hh c (by simp), hh x (by simp), hh y (by simp)]
  case box t x => show ke (oAlloc (cellsL (ev tm x)) nx) = ke (oAlloc (cellsL (ev tm' x)) nx); rw [hh x (by simp)]
  case build t ps => show buildK E t (partsV tm ps) kv = buildK E t (partsV tm' ps) kv; rw [partsV_congr (tm' := tm') fun x hx => hh x (by simpa using hx)]
  case buildSlice t n ps => show ke (oBuildSlice E t n (partsV tm ps) nx) = ke (oBuildSlice E t n (partsV tm' ps) nx); rw [partsV_congr (tm' := tm') fun x hx => hh x (by simpa using hx)]
  case load t x => show loadK E t (ev tm x) h kv = loadK E t (ev tm' x) h kv; rw [hh x (by simp)]
  case store t x y => show ke (oStore E t (ev tm x) (ev tm y) h) = ke (oStore E t (ev tm' x) (ev tm' y) h); rw [hh x (by simp), hh y (by simp)]
  case nilCheck x => show nilCheckK (ev tm x) kv = nilCheckK (ev tm' x) kv; rw [hh x (by simp)]
  case binOp op t x y yt => show binK E _ op t (ev tm x) (ev tm y) kv = binK E _ op t (ev tm' x) (ev tm' y) kv; rw [hh x (by simp), hh y (by simp)]
  case unOp op t x => show unK op (ev tm x) kv = unK op (ev tm' x) kv; rw [hh x (by simp)]
  case convert s d x => show ke (oConvert E s d (ev tm x) h nx) = ke (oConvert E s d (ev tm' x) h nx); rw [hh x (by simp)]
  case makeInterface t x => show makeIfaceK E t (ev tm x) kv = makeIfaceK E t (ev tm' x) kv; rw [hh x (by simp)]
  case makeFunc f xs ys =>
    show makeFuncK f (evs tm xs.toList) (evs tm ys.toList) kv = makeFuncK f (evs tm' xs.toList) (evs tm' ys.toList) kv
    rw [evs_congr (tm' := tm') fun x hx => hh x (by simp; exact .inl (by simpa using hx)), evs_congr (tm' := tm') fun x hx => hh x (by simp; exact .inr (by simpa using hx))]
  case makeSlice t l c => show ke (oMakeSlice E t (ev tm l) (ev tm c) nx) = ke (oMakeSlice E t (ev tm' l) (ev tm' c) nx); rw [hh l (by simp), hh c (by simp)]
  case slice t x lo hi mx =>
    show sliceK E t (ev tm x) (optE tm lo) (optE tm hi) (optE tm mx) h kv = sliceK E t (ev tm' x) (optE tm' lo) (optE tm' hi) (optE tm' mx) h kv
    rw [hh x (by simp), optE_congr (tm' := tm') (o := lo) fun y hy => hh y (by simp [hy]), optE_congr (tm' := tm') (o := hi) fun y hy => hh y (by simp [hy]), optE_congr (tm' := tm') (o := mx) fun y hy => hh y (by simp [hy])]
  case fieldAddr t x f => show fieldAddrK E t (ev tm x) f kv = fieldAddrK E t (ev tm' x) f kv; rw [hh x (by simp)]
  case field t x f => show fieldK E t (ev tm x) f kv = fieldK E t (ev tm' x) f kv; rw [hh x (by simp)]
  case indexAddr t x i => show indexAddrK E t (ev tm x) (ev tm i) kv = indexAddrK E t (ev tm' x) (ev tm' i) kv; rw [hh x (by simp), hh i (by simp)]
  case index t x i => show indexK E t (ev tm x) (ev tm i) kv = indexK E t (ev tm' x) (ev tm' i) kv; rw [hh x (by simp), hh i (by simp)]
  case lookup t m k ok => show ke (oLookup E t (ev tm m) (ev tm k) ok h) = ke (oLookup E t (ev tm' m) (ev tm' k) ok h); rw [hh m (by simp), hh k (by simp)]
  case mapUpdate t m k v => show ke (oMapUpdate E t (ev tm m) (ev tm k) (ev tm v) h) = ke (oMapUpdate E t (ev tm' m) (ev tm' k) (ev tm' v) h); rw [hh m (by simp), hh k (by simp), hh v (by simp)]
  case range t x => show ke (oRange E t (ev tm x) nx) = ke (oRange E t (ev tm' x) nx); rw [hh x (by simp)]
  case next it s => show ke (oNext (ev tm it) s h) = ke (oNext (ev tm' it) s h); rw [hh it (by simp)]
  case typeAssert x xt t ok => show ke (oTypeAssert E (ev tm x) t ok) = ke (oTypeAssert E (ev tm' x) t ok); rw [hh x (by simp)]
  case extract x i => show extractK (ev tm x) i kv = extractK (ev tm' x) i kv; rw [hh x (by simp)]
  case call c => exact (call c (by simpa using hh)).1
  case defer c => exact congrArg ke (call c (by simpa using hh)).2
  case panic x => show ke (oPanic (ev tm x)) = ke (oPanic (ev tm' x)); rw [hh x (by simp)]

theorem opR_still {o : Op} (ho : clsP E o = true) (h' : Heap) (nx' : Nat) : opR E o tm h nx kv ke = opR E o tm h' nx' kv ke := by
  cases o <;> first | (cases ho; done) | rfl | skip
  case convert s d x =>
    show ke (oConvert E s d (ev tm x) h nx) = ke (oConvert E s d (ev tm x) h' nx')
    have ho : clsConv E s d = true := ho
    unfold clsConv at ho
    unfold oConvert
    split at ho
    · rename_i h1 h2
      rw [h1, h2]
    · cases ho
  case call c =>
    obtain ⟨callee, args, ats⟩ := c
    cases callee with
    | value f => cases ho
    | invoke r m => cases ho
    | builtin b => cases b <;> first | (cases ho; done) | rfl

end

section
variable {μ μ0 : Mu} {h h0 : Heap} {nx nx0 : Nat} {w w0 : World}

/-- A block that nothing in the world stands for yet. -/
theorem G.ghost (g : G μ h nx w) (blk : Blk) : G μ (h.put nx (some blk)) (nx + 1) w ∧ Ext μ h nx w μ (h.put nx (some blk)) (nx + 1) w := by
  have hf := (g.fresh nx (Nat.le_refl _)).1
  have get : ∀ i x B N, (h.put nx (some blk)).get i = some x → μ i = some (B, N) → h.get i = some x := fun i x B N e em => by
    rw [get_put] at e
    by_cases hi : i = nx
    · subst hi; rw [hf] at em; cases em
    · rwa [if_neg hi] at e
  refine ⟨⟨?_, ?_, ?_, g.low⟩, ⟨fun _ _ e => e, Nat.le_succ _, fun _ _ e => e, ?_, ?_, Nat.le_refl _, fun _ _ _ => rfl, ?_, rfl, rfl, rfl⟩⟩
  · intro i x B N e em; exact g.blk i x B N (get i x B N e em) em
  · intro i j bi bj B N M ei ej mi mj; exact g.inj i j bi bj B N M (get i _ _ _ ei mi) (get j _ _ _ ej mj) mi mj
  · intro i hi
    rw [get_put, if_neg (by omega)]
    exact g.fresh i (by omega)
  · intro i hi _; rw [get_put, if_neg (by omega)]
  · intro i b e hr
    rw [get_put, if_neg]; exact e
    intro hi; subst hi; rw [(g.fresh i (Nat.le_refl _)).2] at e; cases e
  · rintro B hB ⟨i, b, N, e, em, hr⟩
    exact ⟨i, b, N, get i b B N e em, em, hr⟩

/-- Such a block comes to stand for new memory. -/
theorem G.late (g : G μ h nx w) {i N : Nat} {blk : Blk} (hi : i < nx) (hm : μ i = none) (hb : h.get i = some blk) (obj : Obj) (hbr : BR (upd μ i (w.heap.size, N)) N blk (some obj)) :
    G (upd μ i (w.heap.size, N)) h nx (w.alloc obj) := by
  have hmo := upd_mono (w.heap.size, N) hm
  have hlow : ∀ j B M, upd μ i (w.heap.size, N) j = some (B, M) → j ≠ i → B < w.heap.size := fun j B M e hj => g.low j B M (by rwa [upd_ne _ _ hj] at e)
  refine ⟨?_, ?_, ?_, ?_⟩
  · intro j b B M e em
    by_cases hj : j = i
    · subst hj
      rw [hb] at e; cases e
      rw [upd_same] at em; cases em
      rw [alloc_block]; exact hbr
    · have hB := hlow j B M em hj
      rw [upd_ne _ _ hj] at em
      rw [alloc_other w obj B hB]
      exact (g.blk j b B M e em).mono hmo
  · intro j k bj bk B M K ej ek mj mk
    by_cases hj : j = i
    · by_cases hk : k = i
      · rw [hj, hk]
      · have := hlow k B K mk hk
        subst hj; rw [upd_same] at mj; cases mj
        omega
    · by_cases hk : k = i
      · have := hlow j B M mj hj
        subst hk; rw [upd_same] at mk; cases mk
        omega
      · rw [upd_ne _ _ hj] at mj; rw [upd_ne _ _ hk] at mk
        exact g.inj j k bj bk B M K ej ek mj mk
  · intro j hj
    rw [upd_ne _ _ (by omega)]
    exact g.fresh j hj
  · intro j B M e
    rw [World.size_alloc]
    by_cases hj : j = i
    · subst hj; rw [upd_same] at e; cases e; omega
    · have := hlow j B M e hj; omega

theorem Ext.late (x : Ext μ0 h0 nx0 w0 μ h nx w) {i N : Nat} (hi : nx0 ≤ i) (hm : μ i = none) (obj : Obj) : Ext μ0 h0 nx0 w0 (upd μ i (w.heap.size, N)) h nx (w.alloc obj) where
  mu := fun j y e => upd_mono _ hm j y (x.mu j y e)
  nxle := x.nxle
  old := fun j hj e => by rw [upd_ne _ _ (by omega)]; exact x.old j hj e
  unt := x.unt
  ro := x.ro
  size := by rw [World.size_alloc]; have := x.size; omega
  keep := fun B hB hn => by rw [alloc_other w obj B (Nat.lt_of_lt_of_le hB x.size)]; exact x.keep B hB hn
  own' := by
    rintro B hB ⟨j, b, M, e, em, hr⟩
    refine x.own' B hB ⟨j, b, M, e, ?_, hr⟩
    by_cases hj : j = i
    · subst hj; rw [upd_same] at em; cases em; have := x.size; omega
    · rwa [upd_ne _ _ hj] at em
  os := x.os
  out := x.out
  tape := x.tape

end
end Go.AM
