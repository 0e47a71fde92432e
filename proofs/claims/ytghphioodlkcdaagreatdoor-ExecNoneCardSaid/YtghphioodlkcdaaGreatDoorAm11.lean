/- THE ABSTRACT MACHINE, part 11: slice expressions, lengths, and what else only reads. -/
import Derived.Test.YtghphioodlkcdaaGreatDoorAm10
import Derived.Laws.Strings2
namespace Go.AM
open Go

inductive OR (μ : Mu) : Option V → Option Value → Prop where
  | none : OR μ none none
  | some {v : V} {v' : Value} (h : VR μ v v') : OR μ (some v) (some v')

theorem optE_rel {μ : Mu} {tm : T V} {a : Act} (ht : TR μ tm a.tmps) (o : Option Operand) : OR μ (optE tm o) (o.map a.eval) := by
  cases o with
  | none => exact .none
  | some x => exact .some (ev_rel ht x)

section
variable {R : Type} {r : R} {P : Program} {μ : Mu} {w : World}

theorem bnd_run {v : V} {v' : Value} {n a n' : Nat} {code : BoundsCode} (hv : VR μ v v') (h : bnd v n = some a) (hn : n ≤ n') : (Instr.sliceBound v' n' code).run P w = .ok a w ∧ a ≤ n := by
  obtain ⟨k, i, rfl, e⟩ := asI_some h
  cases hv
  cases i with
  | negSucc m => cases e
  | ofNat m =>
    obtain ⟨hle, e⟩ := ifB_none (show ifB (Nat.ble m n) (some m) none = some a from e)
    injection e with e
    subst e
    have hle := ble_true.1 hle
    refine ⟨?_, hle⟩
    simp [Instr.sliceBound, asIntOf]
    omega

theorem bnds2_some {len m l hg : Nat} {lo hi : Option V} (h : bnds2 len m lo hi = some (l, hg)) : bndO hi m len = some hg ∧ bndO lo hg 0 = some l := by
  unfold bnds2 at h
  split at h
  · cases h
  · rename_i x hx
    split at h
    · cases h
    · rename_i y hy
      injection h with h
      injection h with h1 h2
      subst h1 h2
      exact ⟨hx, hy⟩

/-- The bounds of a slice expression without a max. -/
theorem bounds_run {isSl : Bool} {len cap low l hg : Nat} {lo hi : Option V} {lo' hi' : Option Value} (hlo : OR μ lo lo') (hhi : OR μ hi hi') (hc : low ≤ cap) (h : bnds2 len low lo hi = some (l, hg)) :
    (Instr.sliceBounds isSl len cap lo' hi' none).run P w = .ok (l, hg, cap) w ∧ l ≤ hg ∧ (hg ≤ low ∨ hg = len) := by
  obtain ⟨h1, h2⟩ := bnds2_some h
  cases hhi with
  | none =>
    have h1 : some len = some hg := h1
    injection h1 with h1; subst h1
    cases hlo with
    | none =>
      have h2 : some 0 = some l := h2
      injection h2 with h2; subst h2
      exact ⟨by simp [Instr.sliceBounds], Nat.zero_le _, .inr rfl⟩
    | some hl =>
      have hb := bnd_run (P := P) (w := w) (code := .sliceB) hl h2 (Nat.le_refl _)
      exact ⟨by simp [Instr.sliceBounds, hb.1], hb.2, .inr rfl⟩
  | some hh =>
    have b1 := fun code => bnd_run (P := P) (w := w) (code := code) hh h1 hc
    cases hlo with
    | none =>
      have h2 : some 0 = some l := h2
      injection h2 with h2; subst h2
      exact ⟨by simp [Instr.sliceBounds, b1], Nat.zero_le _, .inl (b1 .sliceB).2⟩
    | some hl =>
      have hb := bnd_run (P := P) (w := w) (code := .sliceB) hl h2 (Nat.le_refl _)
      exact ⟨by simp [Instr.sliceBounds, b1, hb.1], hb.2, .inl (b1 .sliceB).2⟩

/-- The bounds of a slice expression with a max. -/
theorem bounds_run3 {isSl : Bool} {len cap low m l hg : Nat} {lo hi : Option V} {v : V} {v' : Value} {lo' hi' : Option Value} (hlo : OR μ lo lo') (hhi : OR μ hi hi') (hv : VR μ v v') (hok : hiOk hi (some v) = true) (hc : low ≤ cap)
    (hm : bnd v low = some m) (h : bnds2 len m lo hi = some (l, hg)) :
    (Instr.sliceBounds isSl len cap lo' hi' (some v')).run P w = .ok (l, hg, m) w ∧ l ≤ hg ∧ hg ≤ m := by
  obtain ⟨h1, h2⟩ := bnds2_some h
  have b0 := fun code => bnd_run (P := P) (w := w) (code := code) hv hm hc
  cases hhi with
  | none => cases hok
  | some hh =>
    have b1 := fun code => bnd_run (P := P) (w := w) (code := code) hh h1 (Nat.le_refl _)
    cases hlo with
    | none =>
      have h2 : some 0 = some l := h2
      injection h2 with h2; subst h2
      exact ⟨by simp [Instr.sliceBounds, b0, b1], Nat.zero_le _, (b1 .sliceB).2⟩
    | some hl =>
      have b2 := fun code => bnd_run (P := P) (w := w) (code := code) hl h2 (Nat.le_refl _)
      exact ⟨by simp [Instr.sliceBounds, b0, b1, b2], (b2 .sliceB).2, (b1 .sliceB).2⟩

theorem slK_eq (b off l s n c : Nat) (same : Bool) (g : V → Option R) : slK b off l s n c same g = g (.sl b (if same = true then off else off + l * s) n c) := by
  show g (.sl b (ifB same off (Nat.add off (Nat.mul l s))) n c) = _
  rw [ifB_eq]; rfl

/-- What a slice expression over an exact capacity comes to. -/
theorem sliceExactK_sim {b B N off len cap s : Nat} {lo hi mx : Option V} {lo' hi' mx' : Option Value} {g : V → Option R} {isSl : Bool} (hm : μ b = some (B, N)) (hlo : OR μ lo lo') (hhi : OR μ hi hi') (hmx : OR μ mx mx')
    (e : sliceExactK b off len cap s lo hi mx g = some r) :
    ∃ v l h m, g v = some r ∧ (Instr.sliceBounds isSl len cap lo' hi' mx').run P w = .ok (l, h, m) w ∧
      VR μ v (.slice (some (if m = l then ⟨B, off, none⟩ else (⟨B, off, none⟩ : Addr).add (l * s))) (h - l) (m - l)) := by
  obtain ⟨hok, e⟩ := ifB_none e
  obtain ⟨hcap, e⟩ := ifB_none e
  have hcap := ble_true.1 hcap
  split at e
  · cases e
  · rename_i m hmm
    split at e
    · rename_i l hg hb
      rw [slK_eq] at e
      have fin : m ≤ cap → (Instr.sliceBounds isSl len cap lo' hi' mx').run P w = .ok (l, hg, m) w → ∃ v l h m, g v = some r ∧ (Instr.sliceBounds isSl len cap lo' hi' mx').run P w = .ok (l, h, m) w ∧
          VR μ v (.slice (some (if m = l then ⟨B, off, none⟩ else (⟨B, off, none⟩ : Addr).add (l * s))) (h - l) (m - l)) := by
        intro hle hrun
        refine ⟨_, l, hg, m, e, hrun, ?_⟩
        have hadd : (if m = l then (⟨B, off, none⟩ : Addr) else (⟨B, off, none⟩ : Addr).add (l * s)) = ⟨B, if Nat.beq m l = true then off else off + l * s, none⟩ := by
          rw [beq_eq]
          by_cases hml : m = l
          · simp [hml]
          · simp [hml, addr_add]
        rw [hadd]
        exact .sl _ _ _ hm (show m - l < openCap from by omega)
      cases hmx with
      | none =>
        have hmm : some cap = some m := hmm
        injection hmm with hmm; subst hmm
        exact fin (Nat.le_refl _) (bounds_run hlo hhi (Nat.le_refl _) hb).1
      | some hv =>
        have hmm : bnd _ cap = some m := hmm
        exact fin (bnd_run (P := P) (w := w) (code := .sliceB) hv hmm (Nat.le_refl _)).2 (bounds_run3 hlo hhi hv hok (Nat.le_refl _) hmm hb).1
    · cases e

/-- What a slice expression over an open capacity comes to. -/
theorem sliceOpenK_sim {b B N off len low s c : Nat} {lo hi mx : Option V} {lo' hi' mx' : Option Value} {g : V → Option R} (hm : μ b = some (B, N)) (hs : 0 < s) (hN : off + c * s = N) (hlen : len ≤ c) (hlow : low ≤ c)
    (hlo : OR μ lo lo') (hhi : OR μ hi hi') (hmx : OR μ mx mx') (e : sliceOpenK b off len low s lo hi mx g = some r) :
    ∃ v l h m, g v = some r ∧ (Instr.sliceBounds true len c lo' hi' mx').run P w = .ok (l, h, m) w ∧
      VR μ v (.slice (some (if m = l then ⟨B, off, none⟩ else (⟨B, off, none⟩ : Addr).add (l * s))) (h - l) (m - l)) := by
  cases hmx with
  | none =>
    have e : (match bnds2 len low lo hi with
      | none => none
      | some (l, hg) => ifB (Nat.beq l 0) (slK b off 0 s hg (Nat.add openCap s) true g) (ifB (Nat.ble (Nat.succ l) low) (slK b off l s (Nat.sub hg l) (Nat.add openCap s) false g) none)) = some r := e
    split at e
    · cases e
    · rename_i l hg hb
      obtain ⟨hrun, h1, h2⟩ := bounds_run (P := P) (w := w) (isSl := true) hlo hhi hlow hb
      have hgc : hg ≤ c := by rcases h2 with h | h <;> omega
      rw [ifB_eq] at e
      split at e
      · rename_i hl
        have hl := beq_true.1 hl
        subst hl
        rw [slK_eq] at e
        refine ⟨_, 0, hg, c, e, hrun, ?_⟩
        have : (if c = 0 then (⟨B, off, none⟩ : Addr) else (⟨B, off, none⟩ : Addr).add (0 * s)) = ⟨B, off, none⟩ := by
          split
          · rfl
          · rw [Nat.zero_mul, addr_add, Nat.add_zero]
        rw [this]
        exact .slO off hg s c hm hs hN hgc
      · obtain ⟨hl2, e⟩ := ifB_none e
        have hl2 := ble_true.1 hl2
        rw [slK_eq] at e
        refine ⟨_, l, hg, c, e, hrun, ?_⟩
        rw [if_neg (show ¬ c = l from by omega), addr_add]
        refine .slO (off + l * s) (hg - l) s (c - l) hm hs ?_ (by omega)
        have : c * s = l * s + (c - l) * s := by rw [← Nat.add_mul]; congr 1; omega
        omega
  | @some v v' hv =>
    have e : ifB (hiOk hi (some v)) (match bnd v low with
      | none => none
      | some m => ifB (Nat.ble (Nat.succ m) openCap) (match bnds2 len m lo hi with
        | some (l, hg) => slK b off l s (Nat.sub hg l) (Nat.sub m l) (Nat.beq m l) g
        | none => none) none) none = some r := e
    obtain ⟨hok, e⟩ := ifB_none e
    split at e
    · cases e
    · rename_i m hmm
      obtain ⟨hcap, e⟩ := ifB_none e
      have hcap := ble_true.1 hcap
      split at e
      · rename_i l hg hb
        rw [slK_eq] at e
        obtain ⟨hrun, _, _⟩ := bounds_run3 (P := P) (w := w) (isSl := true) hlo hhi hv hok hlow hmm hb
        refine ⟨_, l, hg, m, e, hrun, ?_⟩
        have hadd : (if m = l then (⟨B, off, none⟩ : Addr) else (⟨B, off, none⟩ : Addr).add (l * s)) = ⟨B, if Nat.beq m l = true then off else off + l * s, none⟩ := by
          rw [beq_eq]
          by_cases hml : m = l
          · simp [hml]
          · simp [hml, addr_add]
        rw [hadd]
        exact .sl _ _ _ hm (show m - l < openCap from by omega)
      · cases e

theorem sl_open {b off n c : Nat} {x' : Value} (h : VR μ (.sl b off n c) x') (hc : openCap ≤ c) : ∃ B N s c', μ b = some (B, N) ∧ 0 < s ∧ off + c' * s = N ∧ n ≤ c' ∧ c = openCap + s ∧ x' = .slice (some ⟨B, off, none⟩) n c' := by
  cases h with
  | sl _ _ _ _ hlt => omega
  | slO _ _ s c' hm hs hN hn => exact ⟨_, _, s, c', hm, hs, hN, hn, rfl, rfl⟩

theorem sl_exact {b off n c : Nat} {x' : Value} (h : VR μ (.sl b off n c) x') (hc : ¬ openCap ≤ c) : ∃ B N, μ b = some (B, N) ∧ x' = .slice (some ⟨B, off, none⟩) n c := by
  cases h with
  | sl _ _ _ hm hlt => exact ⟨_, _, hm, rfl⟩
  | slO => omega

variable {E : Env} (K : Known E P) {h : Heap} {nx : Nat} (G0 : G μ h nx w)
include K G0

theorem sliceK_sim {t : TypeId} {x : V} {x' : Value} {lo hi mx : Option V} {lo' hi' mx' : Option Value} {g : V → Option R} (hx : VR μ x x') (hlo : OR μ lo lo') (hhi : OR μ hi hi') (hmx : OR μ mx mx')
    (e : sliceK E t x lo hi mx h g = some r) : ∃ v, g v = some r ∧ Val P μ w (Instr.sliceAt t x' lo' hi' mx') v := by
  unfold sliceK at e
  cases ht : E.ty.get t with
  | none => rw [ht] at e; cases e
  | some td =>
    obtain ⟨ti, d⟩ := td
    obtain ⟨_, hu⟩ := K.ty t ti d ht
    rw [ht] at e
    simp only at e
    split at e
    · rename_i n elem b off
      cases hx with | p _ hm =>
      split at e
      · rename_i ei hei
        obtain ⟨hinf, _⟩ := K.ty elem ei.1 ei.2 hei
        obtain ⟨v, l, hg, m, hv, hrun, hr⟩ := sliceExactK_sim (P := P) (w := w) (isSl := false) hm hlo hhi hmx e
        exact ⟨v, hv, _, by simp [Instr.sliceAt, run_und hu, Instr.sureAddr, hrun, run_size hinf], hr⟩
      · cases e
    · rename_i s
      cases hx
      split at e
      · cases e
      · cases hmx
        split at e
        · rename_i l hg hb
          rw [fL_eq, takeL_eq, dropL_eq] at e
          rw [lenL_eq] at hb
          obtain ⟨hrun, _, _⟩ := bounds_run (P := P) (w := w) (isSl := false) hlo hhi (Nat.le_refl _) hb
          refine ⟨_, e, .string ((ByteArray.mk ⟨s⟩).extract l hg), ?_, ?_⟩
          · have hsz : (ByteArray.mk ⟨s⟩).size = s.length := rfl
            simp [Instr.sliceAt, Instr.slice, run_und hu, hsz, hrun]
          · have : (ByteArray.mk ⟨s⟩).extract l hg = ⟨⟨(s.drop l).take (hg - l)⟩⟩ := ByteArray.extract_mk s l hg
            rw [this]; exact .s _
        · cases e
    · rename_i elem len cap
      cases hx
      split at e
      · rename_i ei hei
        obtain ⟨hinf, _⟩ := K.ty elem ei.1 ei.2 hei
        obtain ⟨hok, e⟩ := ifB_none e
        split at e
        · cases e
        · rename_i m hmm
          split at e
          · rename_i l hg hb
            have fin : (Instr.sliceBounds true len cap lo' hi' mx').run P w = .ok (l, hg, m) w → ∃ v, g v = some r ∧ Val P μ w (Instr.sliceAt t (.slice none len cap) lo' hi' mx') v := fun hrun =>
              ⟨_, e, .slice none (hg - l) (m - l), by simp [Instr.sliceAt, Instr.slice, run_und hu, hrun, run_size hinf], .sl0 _ _⟩
            cases hmx with
            | none =>
              have hmm : some cap = some m := hmm
              injection hmm with hmm; subst hmm
              exact fin (bounds_run hlo hhi (Nat.le_refl _) hb).1
            | some hv => exact fin (bounds_run3 hlo hhi hv hok (Nat.le_refl _) hmm hb).1
          · cases e
      · cases e
    · rename_i elem b off len cap
      split at e
      · rename_i ei hei
        obtain ⟨hinf, _⟩ := K.ty elem ei.1 ei.2 hei
        rw [ifB_eq, ble_eq] at e
        simp only [decide_eq_true_eq] at e
        split at e
        · rename_i hc
          obtain ⟨B, N, s, c', hm, hs, hN, hn, hcs, rfl⟩ := sl_open hx hc
          unfold sliceOpenH at e
          split at e
          · rename_i c m ro hb
            obtain ⟨_, e⟩ := ifB_none' e
            obtain ⟨he, e⟩ := ifB_none e
            obtain ⟨hof, e⟩ := ifB_none e
            have he := beq_true.1 he
            have hof := ble_true.1 hof
            have hss : ei.1.size = s := by
              have : openCap + ei.1.size = openCap + s := he.symm.trans hcs
              omega
            obtain ⟨arr, ty, lo1, hi1, hw, hsz, hmN, _, _⟩ := cells_of G0 hb hm
            have hlow : (m - off) / s ≤ c' := by
              have : (m - off) / s ≤ (c' * s) / s := Nat.div_le_div_right (by omega)
              rwa [Nat.mul_div_cancel _ hs] at this
            rw [hss] at e
            obtain ⟨v, l, hg, mm, hv, hrun, hr⟩ := sliceOpenK_sim (P := P) (w := w) hm hs hN hn hlow hlo hhi hmx e
            refine ⟨v, hv, _, ?_, hr⟩
            simp [Instr.sliceAt, Instr.slice, run_und hu, hrun, run_size hinf, hss]
            split <;> rfl
          · cases e
        · rename_i hc
          obtain ⟨B, N, hm, rfl⟩ := sl_exact hx hc
          obtain ⟨v, l, hg, m, hv, hrun, hr⟩ := sliceExactK_sim (P := P) (w := w) (isSl := true) hm hlo hhi hmx e
          refine ⟨v, hv, _, ?_, hr⟩
          simp [Instr.sliceAt, Instr.slice, run_und hu, hrun, run_size hinf]
          split <;> rfl
      · cases e
    · cases e
end

section
variable {R : Type} {r : R} {P : Program} {μ : Mu} {w : World}

theorem natK_eq (n : Nat) (g : V → Option R) : natK n g = g (.i .i64 (.ofNat n)) := rfl

theorem max2_sim {x y : V} {x' y' : Value} {v : V} (hx : VR μ x x') (hy : VR μ y y') (e : max2 x y = some v) : Val P μ w (Builtin.max2 x' y') v := by
  obtain ⟨k, a, rfl, e1⟩ := asI_some e
  obtain ⟨k', b, rfl, e2⟩ := asI_some e1
  cases hx; cases hy
  injection e2 with e2
  subst e2
  refine ⟨.int k (ifB (intLt a b) b a), ?_, .i _ _⟩
  rw [ifB_eq, intLt_eq]
  simp [Builtin.max2]

theorem min2_sim {x y : V} {x' y' : Value} {v : V} (hx : VR μ x x') (hy : VR μ y y') (e : min2 x y = some v) : Val P μ w (Builtin.min2 x' y') v := by
  obtain ⟨k, a, rfl, e1⟩ := asI_some e
  obtain ⟨k', b, rfl, e2⟩ := asI_some e1
  cases hx; cases hy
  injection e2 with e2
  subst e2
  refine ⟨.int k (ifB (intLt b a) b a), ?_, .i _ _⟩
  rw [ifB_eq, intLt_eq]
  simp [Builtin.min2]

theorem foldV_sim {f : V → V → Option V} {f' : Value → Value → Sem Value} (hf : ∀ {x y : V} {x' y' : Value} {v : V}, VR μ x x' → VR μ y y' → f x y = some v → Val P μ w (f' x' y') v) :
    ∀ {l : List V} {l' : List Value} {x : V} {x' : Value} {v : V}, VL μ l l' → VR μ x x' → foldV f l x = some v → Val P μ w (List.foldlM f' x' l') v
  | [], _, x, x', v, hl, hx, e => by
    cases hl
    have e : some x = some v := e
    injection e with e; subst e
    exact ⟨x', rfl, hx⟩
  | y :: l, _, x, x', v, hl, hx, e => by
    cases hl with | cons hy hl =>
    have e : (match f x y with | some w => foldV f l w | none => none) = some v := e
    split at e
    · rename_i u hu
      obtain ⟨u', h1, h2⟩ := hf hx hy hu
      obtain ⟨v', h3, h4⟩ := foldV_sim hf hl h2 e
      exact ⟨v', by simp [List.foldlM_cons, h1, h3], h4⟩
    · cases e

theorem foldK_sim {f : V → V → Option V} {f' : Value → Value → Sem Value} (hf : ∀ {x y : V} {x' y' : Value} {v : V}, VR μ x x' → VR μ y y' → f x y = some v → Val P μ w (f' x' y') v)
    {l : List V} {l' : List Value} {g : V → Option R} (hl : VL μ l l') (e : foldK f l g = some r) : ∃ v x' m', l' = x' :: m' ∧ g v = some r ∧ Val P μ w (List.foldlM f' x' m') v := by
  cases hl with
  | nil => cases e
  | cons hx hl =>
    have e : (match foldV f _ _ with | some v => asI v none (fun k n => gI k n g) | none => none) = some r := e
    split at e
    · rename_i v hv
      obtain ⟨k, n, rfl, e1⟩ := asI_some e
      rw [gI_eq] at e1
      exact ⟨_, _, _, rfl, e1, foldV_sim hf hl hx hv⟩
    · cases e

theorem nilCheckK_sim {o : Oper} {ρ : Operand → Value} {ox : Operand} {x : V} {g : V → Option R} (ho : o.op = .nilCheck ox) (hx : VR μ x (ρ ox)) (e : nilCheckK x g = some r) :
    g x = some r ∧ (execOp ρ o).run P w = .ok (.value (ρ ox)) w := by
  generalize hρ : ρ ox = x' at hx
  cases hx <;> first
    | (cases e; done)
    | exact ⟨e, by simp [execOp, ho, hρ]⟩

theorem pickK_sim {c a b : V} {c' a' b' : Value} {g : V → Option R} (hc : VR μ c c') (ha : VR μ a a') (hb : VR μ b b') (e : pickK c a b g = some r) :
    ∃ v v', g v = some r ∧ (do pure (Next.value (if ← asBool c' then a' else b')) : Sem Next).run P w = .ok (.value v') w ∧ VR μ v v' := by
  obtain ⟨t, rfl, e1⟩ := asB_some e
  cases hc
  rw [fH_eq, fH_eq] at e1
  cases t with
  | true => exact ⟨_, _, e1, by simp [asBool], ha⟩
  | false => exact ⟨_, _, e1, by simp [asBool], hb⟩

variable {E : Env} (K : Known E P)
include K

theorem lenK_sim {ats : List TypeId} {x : V} {x' : Value} {ty : TypeId} {g : V → Option R} (hx : VR μ x x') (e : lenK E ats x g = some r) : ∃ v, g v = some r ∧ Val P μ w (Builtin.len_ ⟨ats⟩ ty #[x']) v := by
  unfold lenK at e
  split at e
  · cases e
  · rename_i t ht
    rw [nthL_eq] at ht
    have h0 : (⟨ats⟩ : Array TypeId)[0]? = some t := by simpa using ht
    split at e
    · rename_i i hi
      obtain ⟨_, hu⟩ := K.ty t i _ hi
      obtain ⟨s, rfl, e1⟩ := asS_some e
      cases hx
      rw [natK_eq, lenL_eq] at e1
      exact ⟨_, e1, .int .i64 (s.length : Int), by simp [Builtin.len_, h0, run_und hu, goInt]; rfl, .i _ _⟩
    · rename_i i el hi
      obtain ⟨_, hu⟩ := K.ty t i _ hi
      cases x <;> first
        | (cases e; done)
        | (rename_i n c
           have e : natK n g = some r := e
           rw [natK_eq] at e
           cases hx
           exact ⟨_, e, .int .i64 (n : Int), by simp [Builtin.len_, h0, run_und hu, goInt], .i _ _⟩; done)
        | (rename_i b off n c
           have e : natK n g = some r := e
           rw [natK_eq] at e
           cases hx <;> exact ⟨_, e, .int .i64 (n : Int), by simp [Builtin.len_, h0, run_und hu, goInt], .i _ _⟩)
    · rename_i i n el hi
      obtain ⟨_, hu⟩ := K.ty t i _ hi
      rw [natK_eq] at e
      exact ⟨_, e, .int .i64 (n : Int), by simp [Builtin.len_, h0, run_und hu, goInt], .i _ _⟩
    · cases e

theorem capK_sim {ats : List TypeId} {x : V} {x' : Value} {ty : TypeId} {g : V → Option R} (hx : VR μ x x') (e : capK E ats x g = some r) : ∃ v, g v = some r ∧ Val P μ w (Builtin.cap_ ⟨ats⟩ ty #[x']) v := by
  unfold capK at e
  split at e
  · cases e
  · rename_i t ht
    rw [nthL_eq] at ht
    have h0 : (⟨ats⟩ : Array TypeId)[0]? = some t := by simpa using ht
    split at e
    · rename_i i el hi
      obtain ⟨_, hu⟩ := K.ty t i _ hi
      split at e
      · rename_i n c
        obtain ⟨_, e⟩ := ifB_none' e
        rw [natK_eq] at e
        cases hx
        exact ⟨_, e, .int .i64 (c : Int), by simp [Builtin.cap_, h0, run_und hu, goInt], .i _ _⟩
      · rename_i b off n c
        obtain ⟨hc, e⟩ := ifB_none' e
        rw [natK_eq] at e
        obtain ⟨B, N, hm, rfl⟩ := sl_exact hx (fun h => by rw [ble_true.2 h] at hc; cases hc)
        exact ⟨_, e, .int .i64 (c : Int), by simp [Builtin.cap_, h0, run_und hu, goInt], .i _ _⟩
      · cases e
    · cases e

theorem makeIfaceK_sim {t : TypeId} {x : V} {x' : Value} {g : V → Option R} (hx : VR μ x x') (e : makeIfaceK E t x g = some r) : ∃ v, g v = some r ∧ Val P μ w (Instr.makeInterface t x') v := by
  unfold makeIfaceK at e
  split at e
  · rename_i i d hi
    obtain ⟨_, hu⟩ := K.ty t i _ hi
    split at e
    · cases e
    · rename_i hd
      rw [fH_eq] at e
      refine ⟨_, e, .iface t x', ?_, .n t hx⟩
      cases d <;> first | exact absurd rfl (hd _) | simp [Instr.makeInterface, run_und hu]
  · cases e

end

end Go.AM
