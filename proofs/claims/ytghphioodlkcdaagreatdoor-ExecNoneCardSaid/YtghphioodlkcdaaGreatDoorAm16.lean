/- THE ABSTRACT MACHINE, part 16: copy, conversions, makeSlice: in the abstract and in the model. -/
import Derived.Test.YtghphioodlkcdaaGreatDoorAm15
import Derived.Laws.IdiomStrings
namespace Go.AM
open Go

theorem minN_eq (a b : Nat) : minN a b = Nat.min a b := by
  unfold minN
  rw [ifB_eq, ble_eq]
  show _ = min a b
  rw [Nat.min_def]
  simp

section
variable {P : Program} {μ : Mu} {h : Heap} {nx : Nat} {w : World} {E : Env} (K : Known E P) (g : G μ h nx w)
include K g

theorem oCopy_sim {ats : List TypeId} {ty : TypeId} {d x : V} {d' x' : Value} {v : V} {f : Eff} (hd : VR μ d d') (hx : VR μ x x') (e : oCopy E ats d x h = .val v f) :
    ValE P μ h nx w (Builtin.copy_ ⟨ats⟩ ty #[d', x']) v f := by
  unfold oCopy at e
  rw [nthL_eq] at e
  split at e
  · cases e
  · rename_i st h0
    have h0' : (⟨ats⟩ : Array TypeId)[0]? = some st := by simpa using h0
    split at e
    · rename_i si elem n hsi hn
      obtain ⟨_, hu⟩ := K.ty st si _ hsi
      split at e
      · rename_i ei ed hei
        obtain ⟨hinf, _⟩ := K.ty elem ei ed hei
        have hlen := lenV_sim (P := P) hx hn w
        simp only [minN_eq] at e
        split at e
        · rename_i dl cap
          cases hd
          split at e
          · rename_i l hl
            injection e with e1 e2
            subst e1 e2
            obtain ⟨l', h1, h2⟩ := firstC_sim (P := P) g hx hl
            refine ValE.of_val g ⟨goInt (Nat.min n dl), ?_, .i _ _⟩
            simp only [Builtin.copy_, h0', Sem.run_bind, run_und hu, run_size hinf, Result.andThen_ok, hlen, List.getElem?_toArray, List.getElem?_cons_zero, List.getElem?_cons_succ, h1 w rfl, Sem.run_pure]
          · cases e
        · rename_i b off dl cap
          split at e
          · rename_i l hl
            rw [ifB_eq] at e
            split at e
            · rename_i hst
              injection e with e1 e2
              subst e1 e2
              obtain ⟨l', h1, h2⟩ := firstC_sim (P := P) g hx hl
              have : ∃ B N cap', μ b = some (B, N) ∧ d' = .slice (some ⟨B, off, none⟩) dl cap' := by
                cases hd with
                | sl _ _ _ hm _ => exact ⟨_, _, _, hm, rfl⟩
                | slO _ _ _ _ hm _ _ _ => exact ⟨_, _, _, hm, rfl⟩
              obtain ⟨B, N, cap', hm, rfl⟩ := this
              intro h' nx' hs'
              obtain ⟨w', μ', q1, q2, q3⟩ := wr_sim (P := P) g hst hm h2 h' nx' hs'
              refine ⟨goInt (Nat.min n dl), w', μ', ?_, .i _ _, q2, q3⟩
              simp only [Builtin.copy_, h0', Sem.run_bind, run_und hu, run_size hinf, Result.andThen_ok, hlen, List.getElem?_toArray, List.getElem?_cons_zero, List.getElem?_cons_succ, h1 w rfl, q1, Sem.run_pure]
            · cases e
          · cases e
        · cases e
      · cases e
    · cases e

omit g in
theorem oToBytes_sim (g : G μ h nx w) {src dst el : TypeId} {s : List UInt8} {v : V} {f : Eff} (hs : P.underlying src = some .string) (hd : P.underlying dst = some (.slice el)) (e : oToBytes E el s nx = .val v f) :
    ValE P μ h nx w (convert src dst (.string ⟨⟨s⟩⟩)) v f := by
  unfold oToBytes at e
  split at e
  · rename_i ei hei
    obtain ⟨_, hu⟩ := K.ty el ei _ hei
    injection e with e1 e2
    subst e1 e2
    rintro h' nx' ⟨rfl, rfl⟩
    have hrun := run_bytes_of_string (P := P) w src dst el ⟨⟨s⟩⟩ hs hd hu
    have hge : s.length ≤ grownCap w s.length 0 el := grownCap_ge w s.length 0 el
    have hss : (ByteArray.mk ⟨s⟩).size = s.length := rfl
    rw [hss] at hrun
    have hsz : (bytesRow ⟨⟨s⟩⟩ (grownCap w s.length 0 el)).size = grownCap w s.length 0 el := by
      simp only [bytesRow, Array.size_append, Array.size_map, Array.size_replicate, hss]
      show s.length + _ = _
      omega
    have g' : G μ h nx w.drew := G.drew (w := w) (w' := w.drew) rfl g
    have hcl : (charsV s).length = s.length := by rw [charsV, mapL_eq, List.length_map]
    obtain ⟨q1, q2⟩ := new_cells g' (l := charsV s) (bytesRow ⟨⟨s⟩⟩ (grownCap w s.length 0 el)) el _ _ (by rw [hcl, hsz]; exact hge) (.inr (Nat.le_refl _)) (fun i u hu => by
      obtain ⟨u', h1, h2⟩ := (charsV_rel (μ := μ) s).get i u hu
      refine ⟨u', ?_, h2⟩
      have hi : i < s.length := by
        rcases Nat.lt_or_ge i s.length with h' | h'
        · exact h'
        · rw [List.getElem?_eq_none (by rw [hcl]; exact h')] at hu; cases hu
      rw [bytesRow_at _ _ i hi, ← h1]
      simp [hi])
    refine ⟨_, _, _, hrun, ?_, q1, (Ext.drew rfl rfl rfl rfl : Ext μ h nx w μ h nx w.drew).trans q2⟩
    rw [lenL_eq]
    exact .slO 0 s.length 1 _ (upd_same _ _ _) (by omega) (by rw [hsz]; omega) hge
  · cases e

omit K g in
theorem bytesOf_rel : ∀ {l : List V} {l' : List Value} {r : List UInt8}, VL μ l l' → bytesOf l = some r → ∃ ns : List Int, l' = ns.map (Value.int .u8) ∧ r = ns.map fun n => UInt8.ofNat n.toNat
  | [], _, r, hl, e => by
    cases hl
    have e : some [] = some r := e
    injection e with e
    exact ⟨[], rfl, e.symm⟩
  | v :: l, _, r, hl, e => by
    cases hl with | cons hv hl =>
    have e : (match (generalizing := false) v with | .i .u8 n => (match bytesOf l with | some r => some (UInt8.ofNat n.toNat :: r) | none => none) | _ => none) = some r := e
    split at e
    · rename_i n _
      split at e
      · rename_i r' hr
        injection e with e
        obtain ⟨ns, h1, h2⟩ := bytesOf_rel hl hr
        cases hv
        exact ⟨n :: ns, by rw [h1]; rfl, by rw [← e, h2]; rfl⟩
      · cases e
    · cases e

omit K g in
theorem foldl_push_bytes : ∀ (ns : List Int) (s : ByteArray), ns.foldl (fun r n => r.push (UInt8.ofNat n.toNat)) s = ⟨s.data ++ (ns.map fun n => UInt8.ofNat n.toNat).toArray⟩
  | [], s => by simp
  | n :: ns, s => by
    simp only [List.foldl_cons, List.map_cons]
    rw [foldl_push_bytes ns]
    simp [ByteArray.push]

theorem toStr_sim {src dst el : TypeId} {x : V} {x' : Value} {v : V} (hx : VR μ x x') (hs : P.underlying src = some (.slice el)) (hd : P.underlying dst = some .string) (e : toStr E el x h = some v) : Val P μ w (convert src dst x') v := by
  unfold toStr at e
  split at e
  · rename_i ei hei
    obtain ⟨_, hu⟩ := K.ty el ei _ hei
    have ld : ∀ {b B N off len cap : Nat}, μ b = some (B, N) → ldK h b off len toStrL = some v → Val P μ w (convert src dst (.slice (some ⟨B, off, none⟩) len cap)) v := by
      intro b B N off len cap hm e
      unfold ldK at e
      split at e
      · rename_i c m ro hb
        obtain ⟨hle, e⟩ := ifB_none e
        have hle := ble_true.1 hle
        rw [rdK_eq] at e
        obtain ⟨l', h1, h2, h3⟩ := load_cells (P := P) g hb hm hle
        unfold toStrL at e
        split at e
        · rename_i r hr
          rw [fL_eq] at e
          injection e with e
          obtain ⟨ns, hn1, hn2⟩ := bytesOf_rel h2 hr
          subst hn1
          refine ⟨.string ⟨⟨r⟩⟩, ?_, by rw [← e]; exact .s r⟩
          rw [run_convert_bytes_string w src dst el _ len cap hs hu hd, run_bytesToString w _ len cap ns (h1 w rfl), foldl_push_bytes, ← hn2]
          have he0 : ByteArray.empty.data = #[] := rfl
          rw [he0]
          simp
        · cases e
      · cases e
    split at e
    · cases hx
      injection e with e
      subst e
      refine ⟨.string ⟨⟨[]⟩⟩, ?_, .s []⟩
      rw [run_convert_bytes_string w src dst el none _ _ hs hu hd]
      simp [Conv.bytesToString]
      rfl
    · cases hx with
      | sl _ _ _ hm _ => exact ld hm e
      | slO _ _ _ _ hm _ _ _ => exact ld hm e
    · cases e
  · cases e

omit K in
/-- A mark behind a row's last cell. -/
theorem mark_sim {b off B N : Nat} (hst : stOk h b 0 [] = true) (hm : μ b = some (B, N)) : UnitE P μ h nx w (markStringish ⟨B, off, none⟩) (.wr b 0 []) := by
  rintro h' nx' ⟨c0, n0, ro0, hb0, rfl, rfl⟩
  obtain ⟨c, m, hb, _, _⟩ := stOk_some hst
  rw [hb] at hb0
  injection hb0 with hb0
  injection hb0 with e1 e2 e3
  subst e1 e2 e3
  obtain ⟨arr, ty, lo, hi, hw, hN, hmN, hf, hc⟩ := cells_of g hb hm
  have hsh : w.shape? B = some (ty, N) := by unfold World.shape?; rw [hw]; simp [hN]
  have hrun : (markStringish ⟨B, off, none⟩).run P w = .ok () (w.freeze ⟨B, N, none⟩ 1) := by
    simp [markStringish, hsh]
  have hfz : (w.freeze ⟨B, N, none⟩ 1).heap = w.heap.modify B fun
      | .cells c elem (lo, hi) => .cells c elem (if lo == hi then (N, N + 1) else (min lo N, max hi (N + 1)))
      | o => o := by
    unfold World.freeze
    rw [if_neg (by decide)]
    rfl
  obtain ⟨q1, q2⟩ := g.turn (w' := w.freeze ⟨B, N, none⟩ 1) (blk' := .cells (putL c [] 0) m false) hb hm rfl (by rw [hfz, Array.size_modify]) (fun C hC => by
      rw [hfz, Array.getElem?_modify, if_neg (fun e => hC e.symm)])
    ⟨arr, ty, (if lo == hi then (N, N + 1) else (min lo N, max hi (N + 1))).1, (if lo == hi then (N, N + 1) else (min lo N, max hi (N + 1))).2, by
      rw [hfz, Array.getElem?_modify, if_pos rfl, hw]; rfl, hN, hmN, by
      by_cases h' : lo = hi
      · rw [if_pos (by simpa using h')]; exact .inr (Nat.le_refl _)
      · rw [if_neg (by simpa using h')]
        rcases hf with hf | hf
        · exact absurd hf h'
        · exact .inr (by show N ≤ min lo N; omega), fun i hi => by
      obtain ⟨v', a, b⟩ := hc i hi
      exact ⟨v', a, by rw [rd_putL, if_neg (by simp only [List.length_nil]; omega)]; exact b⟩⟩
    (by unfold World.freeze; rw [if_neg (by decide)]) (by unfold World.freeze; rw [if_neg (by decide)]) (by unfold World.freeze; rw [if_neg (by decide)])
  exact ⟨_, μ, hrun, q1, q2⟩

theorem oConvert_sim {src dst : TypeId} {x : V} {x' : Value} {v : V} {f : Eff} (hx : VR μ x x') (e : oConvert E src dst x h nx = .val v f) : ValE P μ h nx w (convert src dst x') v f := by
  unfold oConvert at e
  split at e
  · rename_i si sd di dd hs hd
    obtain ⟨_, hus⟩ := K.ty src si sd hs
    obtain ⟨_, hud⟩ := K.ty dst di dd hd
    split at e
    · rename_i k
      cases x <;> first | (cases e; done) | skip
      rename_i k0 n
      have e : wrK k n (fun n => ORes.val (.i k n) .no) = .val v f := e
      rw [wrK_eq] at e
      injection e with e1 e2
      subst e1 e2
      cases hx
      exact ValE.of_val g ⟨_, by simp [convert, run_und hus, run_und hud, Conv.intToInt], .i _ _⟩
    · split at e
      · injection e with e1 e2
        subst e1 e2
        cases hx
        exact ValE.of_val g ⟨_, by simp [convert, run_und hus, run_und hud], .s _⟩
      · split at e
        · rename_i el _
          unfold oOpt at e
          split at e
          · rename_i v' hv
            injection e with e1 e2
            subst e1 e2
            exact ValE.of_val g (toStr_sim K g hx hus hud hv)
          · cases e
        · cases e
    · rename_i el
      split at e
      · rename_i s
        cases hx
        split at e
        · exact oToBytes_sim K g hus hud e
        · cases e
      · rename_i b off n c
        split at e
        · rename_i sel _ ei hei
          obtain ⟨_, hue⟩ := K.ty el ei _ hei
          rw [ifB_eq] at e
          split at e
          · rename_i hsd
            rw [ifB_eq] at e
            split at e
            · rename_i hst
              injection e with e1 e2
              subst e1 e2
              have hsd : src = dst := beq_true.1 hsd
              subst hsd
              have hel := hus.symm.trans hud
              injection hel with hel
              injection hel with hel
              subst hel
              have : ∃ B N cap', μ b = some (B, N) ∧ x' = .slice (some ⟨B, off, none⟩) n cap' := by
                cases hx with
                | sl _ _ _ hm _ => exact ⟨_, _, _, hm, rfl⟩
                | slO _ _ _ _ hm _ _ _ => exact ⟨_, _, _, hm, rfl⟩
              obtain ⟨B, N, cap', hm, rfl⟩ := this
              intro h' nx' hs'
              obtain ⟨w', μ', q1, q2, q3⟩ := mark_sim (P := P) (off := off) g hst hm h' nx' hs'
              exact ⟨_, w', μ', by simp [convert, run_und hus, run_und hue, q1], hx.mono q3.mu, q2, q3⟩
            · cases e
          · cases e
        · cases e
      · cases e
    · cases e
  · cases e

end
end Go.AM
