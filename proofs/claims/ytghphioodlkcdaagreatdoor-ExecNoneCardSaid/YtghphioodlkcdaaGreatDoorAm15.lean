/- THE ABSTRACT MACHINE, part 15: append, copy: in the abstract and in the model. -/
import Derived.Test.YtghphioodlkcdaaGreatDoorAm14
namespace Go.AM
open Go

theorem size_zeroCells (zero : Array Value) (n : Nat) : (Builtin.zeroCells zero n).size = n * zero.size := by simp [Builtin.zeroCells]

section
variable {P : Program} {μ : Mu} {h : Heap} {nx : Nat} {w : World}

/-- What is appended, in the abstract (n elements, cells 'new') and in the model: two ways, elements or zeros; what each comes to where there is room, and where there is none. -/
structure App (P : Program) (μ : Mu) (w : World) (ats : Array TypeId) (ty elem : TypeId) (e : TypeInfo) (zv : Value) (x' : Value) (n : Nat) (new : List V) : Prop where
  news : ∃ news : List Value, VL μ new news ∧
    (∀ (base : Option Addr) (s cap : Nat), s + n ≤ cap → (Builtin.append_ ats ty #[.slice base s cap, x']).run P w =
      (match base with | some a => ((storeCells (a.add (s * e.size)) news).run P w).andThen fun _ w' => .ok (.slice base (s + n) cap) w' | none => .ok (.slice base (s + n) cap) w)) ∧
    (∀ (base : Option Addr) (s cap : Nat) (olds : List Value), ¬ s + n ≤ cap → ¬ (Builtin.nextslicecap (s + n) cap * e.bytes > 2 ^ 48) → s + n ≤ 9223372036854775807 →
      (Builtin.firstCells e.size s (.slice base s cap)).run P w.drew = .ok olds.toArray w.drew →
      ∃ c arr, s + n ≤ c ∧ arr = olds.toArray ++ (news.toArray ++ Builtin.zeroCells zv.cells (c - (s + n))) ∧
        (Builtin.append_ ats ty #[.slice base s cap, x']).run P w = .ok (.slice (some ⟨w.heap.size, 0, none⟩) (s + n) c) (w.drew.alloc (.cells arr elem (0, 0))))

variable {E : Env} (K : Known E P) (g : G μ h nx w)
include K g

theorem appended_sim {ats : List TypeId} {st elem ty : TypeId} {e : TypeInfo} {ed : TypeDesc} {x : V} {x' : Value} {n : Nat} {new : List V} {zv : Value} (h0 : ats[0]? = some st) (hu : P.underlying st = some (.slice elem)) (he : E.ty.get elem = some (e, ed))
    (hz : e.zero = some zv) (hzs : zv.cells.size = e.size) (hzr : ∀ z, zeroL e = some z → VL μ z zv.cells.toList) (hb : e.bytes ≠ 0) (hx : VR μ x x') (ha : appended E ats e x h = some (n, new)) : App P μ w ⟨ats⟩ ty elem e zv x' n new := by
  obtain ⟨hinf, _⟩ := K.ty elem e ed he
  have h0' : (⟨ats⟩ : Array TypeId)[0]? = some st := by simpa using h0
  have elems : NoZeros P ⟨ats⟩ → appendedV e x h = some (n, new) → App P μ w ⟨ats⟩ ty elem e zv x' n new := by
    intro hnz ha
    unfold appendedV at ha
    split at ha
    · rename_i n' hn
      split at ha
      · rename_i l hl
        injection ha with ha
        injection ha with e1 e2
        subst e1 e2
        obtain ⟨news, h1, h2⟩ := firstC_sim (P := P) g hx hl
        refine ⟨news, h2, ?_, ?_⟩
        · intro base s cap hroom
          exact app_room h0' hu hinf hroom hnz (lenV_sim hx hn w) (h1 w rfl)
        · intro base s cap olds hroom hbig hsm ho
          obtain ⟨c, hc, hr⟩ := app_grow (ty := ty) h0' hu hinf hz hroom hb hbig hnz (lenV_sim hx hn w) (h1 w.drew rfl) ho
          exact ⟨c, _, hc, rfl, hr⟩
      · cases ha
    · cases ha
  unfold appended at ha
  rw [nthL_eq] at ha
  split at ha
  · rename_i xt hxt
    have hxt' : (⟨ats⟩ : Array TypeId)[1]? = some xt := by simpa using hxt
    split at ha
    · rename_i i hi
      obtain ⟨_, hui⟩ := K.ty xt i.1 i.2 hi
      rw [ifB_eq] at ha
      split at ha
      · rename_i hint
        obtain ⟨k', hk'⟩ : ∃ k', P.underlying xt = some (.int k') := by
          rw [hui]
          cases hd : i.2 <;> rw [hd] at hint <;> first | exact ⟨_, rfl⟩ | cases hint
        unfold appendedZ at ha
        split at ha
        · rename_i k m
          obtain ⟨hnb, ha⟩ := ifB_none ha
          obtain ⟨hn, ha⟩ := ifB_none ha
          have hnb := ble_true.1 hnb
          have hn := ble_true.1 hn
          split at ha
          · rename_i z hzz
            injection ha with ha
            injection ha with e1 e2
            subst e1 e2
            cases hx
            refine ⟨(Builtin.zeroCells zv.cells m).toList, zeroCells_rel (hzr z hzz) m, ?_, ?_⟩
            · intro base s cap hroom
              exact app_room_z h0' hu hinf hz hzs hroom ⟨xt, k', hxt', hk'⟩ hn hnb
            · intro base s cap olds hroom hbig hsm ho
              obtain ⟨c, hc, hr⟩ := app_grow_z (ty := ty) (k := k) h0' hu hinf hz hzs hroom hsm hbig ⟨xt, k', hxt', hk'⟩ hnb ho
              exact ⟨c, _, hc, by simp, hr⟩
          · cases ha
        · cases ha
      · rename_i hint
        exact elems (.inr ⟨xt, i.2, hxt', hui, by simpa using hint⟩) ha
    · cases ha
  · rename_i hxt
    exact elems (.inl (by simpa using hxt)) ha

omit K g in
theorem roomy_fits {e : TypeInfo} {need cap : Nat} (hr : roomy e need = true) (hc : cap < need) : ¬ (Builtin.nextslicecap need cap * e.bytes > 2 ^ 48) := by
  have hr := ble_true.1 hr
  have hr : 2 * need * e.bytes ≤ 281474976710656 := hr
  have h1 := nextslicecap_le hc
  have h2 : Builtin.nextslicecap need cap * e.bytes ≤ 2 * need * e.bytes := Nat.mul_le_mul_right _ h1
  omega

omit K g in
theorem roomy_small {e : TypeInfo} {need : Nat} (hr : roomy e need = true) (hb : e.bytes ≠ 0) : need ≤ 9223372036854775807 := by
  have hr := ble_true.1 hr
  have hr : 2 * need * e.bytes ≤ 281474976710656 := hr
  have : 2 * need * 1 ≤ 2 * need * e.bytes := Nat.mul_le_mul_left _ (by omega)
  omega

omit K in
/-- Where there is no room: new memory. -/
theorem appNew_sim {ats : Array TypeId} {ty elem : TypeId} {e : TypeInfo} {zv x' : Value} {n len cap : Nat} {new old : List V} {base : Option Addr} {v : V} {f : Eff} (A : App P μ w ats ty elem e zv x' n new)
    (hzs : zv.cells.size = e.size) (hs : 0 < e.size) (hb : e.bytes ≠ 0) (hroom : ¬ len + n ≤ cap) (ho : ∃ olds, (Builtin.firstCells e.size len (.slice base len cap)).run P w.drew = .ok olds.toArray w.drew ∧ VL μ old olds)
    (ha : appNew e (some old) len n new nx = .val v f) : ValE P μ h nx w (Builtin.append_ ats ty #[.slice base len cap, x']) v f := by
  unfold appNew at ha
  rw [ifB_eq] at ha
  split at ha
  · rw [ifB_eq] at ha
    split at ha
    · rename_i hr
      replace ha : ifB (Nat.beq (lenL (appL old new)) (Nat.mul (Nat.add len n) e.size)) (.val (.sl nx 0 (Nat.add len n) (Nat.add openCap e.size)) (.new (appL old new))) ORes.stuck = .val v f := ha
      rw [ifB_eq] at ha
      split at ha
      · rename_i hlen
        have hlen := beq_true.1 hlen
        rw [lenL_eq, appL_eq] at hlen
        rw [appL_eq] at ha
        injection ha with e1 e2
        subst e1 e2
        obtain ⟨olds, ho1, ho2⟩ := ho
        obtain ⟨news, hn1, _, hn3⟩ := A.news
        obtain ⟨c, arr, hc, rfl, hrun⟩ := hn3 base len cap olds hroom (roomy_fits hr (by omega)) (roomy_small hr hb) ho1
        have hl := ho2.append hn1
        have hlen2 : (olds ++ news).length = (len + n) * e.size := by rw [← hl.length]; exact hlen
        have hsize : (olds.toArray ++ (news.toArray ++ Builtin.zeroCells zv.cells (c - (len + n)))).size = c * e.size := by
          rw [Array.size_append, Array.size_append, size_zeroCells, hzs]
          rw [List.length_append] at hlen2
          have : c * e.size = (len + n) * e.size + (c - (len + n)) * e.size := by rw [← Nat.add_mul]; congr 1; omega
          show olds.length + (news.length + _) = _
          omega
        rintro h' nx' ⟨rfl, rfl⟩
        have g' : G μ h nx w.drew := G.drew (w := w) (w' := w.drew) rfl g
        obtain ⟨q1, q2⟩ := new_cells g' (l := old ++ new) (olds.toArray ++ (news.toArray ++ Builtin.zeroCells zv.cells (c - (len + n)))) elem 0 0 (by rw [hl.length, hsize, hlen2]; exact Nat.mul_le_mul_right _ hc) (.inl rfl) (fun i u hu => by
          obtain ⟨u', hu', hr'⟩ := hl.get i u hu
          refine ⟨u', ?_, hr'⟩
          have hi : i < (olds ++ news).length := by
            rcases Nat.lt_or_ge i (olds ++ news).length with h' | h'
            · exact h'
            · rw [List.getElem?_eq_none h'] at hu'; cases hu'
          have : (olds.toArray ++ (news.toArray ++ Builtin.zeroCells zv.cells (c - (len + n)))) = (olds ++ news).toArray ++ Builtin.zeroCells zv.cells (c - (len + n)) := by rw [← Array.append_assoc]; congr 1; exact List.append_toArray ..
          rw [this, Array.getElem?_append_left (by show i < (olds ++ news).length; exact hi)]
          simpa using hu')
        refine ⟨_, _, _, hrun, ?_, q1, (Ext.drew rfl rfl rfl rfl : Ext μ h nx w μ h nx w.drew).trans q2⟩
        rw [hsize]
        exact .slO 0 (len + n) e.size c (upd_same _ _ _) hs (by omega) hc
      · cases ha
    · cases ha
  · cases ha

omit K in
theorem appExact_sim {ats : Array TypeId} {ty elem : TypeId} {e : TypeInfo} {zv x' : Value} {n len cap b B N off : Nat} {new : List V} {v : V} {f : Eff} (A : App P μ w ats ty elem e zv x' n new)
    (hm : μ b = some (B, N)) (hzs : zv.cells.size = e.size) (hs : 0 < e.size) (hb : e.bytes ≠ 0) (hcap : cap < openCap)
    (ha : ifB (Nat.ble (Nat.add len n) cap) (ifB (stOk h b (Nat.add off (Nat.mul len e.size)) new) (.val (.sl b off (Nat.add len n) cap) (.wr b (Nat.add off (Nat.mul len e.size)) new)) .stuck) (appNew e (ldK h b off (Nat.mul len e.size) some) len n new nx) = ORes.val v f) :
    ValE P μ h nx w (Builtin.append_ ats ty #[.slice (some ⟨B, off, none⟩) len cap, x']) v f := by
  rw [ifB_eq, ifB_eq] at ha
  split at ha
  · rename_i hroom
    have hroom : len + n ≤ cap := ble_true.1 hroom
    split at ha
    · rename_i hst
      injection ha with e1 e2
      subst e1 e2
      obtain ⟨news, hn1, hn2, _⟩ := A.news
      have hrun := hn2 (some ⟨B, off, none⟩) len cap hroom
      simp only [addr_add] at hrun
      intro h' nx' hs'
      obtain ⟨w', μ', q1, q2, q3⟩ := wr_sim (P := P) g hst hm hn1 h' nx' hs'
      have q1 : (storeCells ⟨B, off + len * e.size, none⟩ news).run P w = .ok () w' := q1
      refine ⟨.slice (some ⟨B, off, none⟩) (len + n) cap, w', μ', by rw [hrun, q1]; rfl, .sl _ _ _ (q3.mu _ _ hm) hcap, q2, q3⟩
    · cases ha
  · rename_i hroom
    have hroom : ¬ len + n ≤ cap := fun hle => hroom (ble_true.2 hle)
    cases hld : ldK h b off (Nat.mul len e.size) some with
    | none =>
      rw [hld] at ha
      unfold appNew at ha
      simp only [ifB_eq] at ha
      split at ha
      · split at ha
        · cases ha
        · cases ha
      · cases ha
    | some old =>
      rw [hld] at ha
      refine appNew_sim g A hzs hs hb hroom ?_ ha
      obtain ⟨l', h1, h2⟩ := firstC_sim (P := P) (s := e.size) (n := len) g (.sl off len cap hm hcap) (show firstC h e.size len (.sl b off len cap) = some old from hld)
      exact ⟨l', h1 w.drew rfl, h2⟩

omit K in
theorem appOpen_sim {ats : Array TypeId} {ty elem : TypeId} {e : TypeInfo} {zv x' : Value} {n len cap b B N off s c' : Nat} {new : List V} {v : V} {f : Eff} (A : App P μ w ats ty elem e zv x' n new)
    (hm : μ b = some (B, N)) (hzs : zv.cells.size = e.size) (_hs0 : 0 < e.size) (hb : e.bytes ≠ 0) (hs : 0 < s) (hN : off + c' * s = N) (hlc : len ≤ c') (hcs : cap = openCap + s)
    (ha : appOpen e b off len cap n new h nx = .val v f) : ValE P μ h nx w (Builtin.append_ ats ty #[.slice (some ⟨B, off, none⟩) len c', x']) v f := by
  unfold appOpen at ha
  split at ha
  · rename_i c m ro hbk
    rw [ifB_eq] at ha
    split at ha
    · rename_i hce
      have hce := beq_true.1 hce
      have hse : s = e.size := by
        have : openCap + e.size = openCap + s := hce.symm.trans hcs
        omega
      subst hse
      cases ro with
      | true => cases ha
      | false =>
        replace ha : ifB (cellsOk new) (ifB (Nat.beq (lenL new) (Nat.mul n e.size))
          (ifB (Nat.ble (Nat.add off (Nat.mul (Nat.add len n) e.size)) m)
            (.val (.sl b off (Nat.add len n) cap) (.wr b (Nat.add off (Nat.mul len e.size)) new))
            (ifB (Nat.beq off 0) (ifB (roomy e (Nat.add len n)) (ifB (Nat.ble (Nat.mul len e.size) m)
              (.val (.sl nx 0 (Nat.add len n) cap) (.mv b (Nat.mul len e.size) new)) .stuck) .stuck) .stuck)) .stuck) .stuck = ORes.val v f := ha
        rw [ifB_eq] at ha
        split at ha
        · rename_i hk
          rw [ifB_eq] at ha
          split at ha
          · rename_i hnl
            have hnl := beq_true.1 hnl
            rw [lenL_eq] at hnl
            have hnl : new.length = n * e.size := hnl
            obtain ⟨arr, tyb, lo, hi, hw, hNs, hmN, hfz, hcell⟩ := cells_of g hbk hm
            obtain ⟨news, hn1, hn2, hn3⟩ := A.news
            have hmul : (len + n) * e.size = len * e.size + n * e.size := Nat.add_mul _ _ _
            rw [ifB_eq] at ha
            split at ha
            · rename_i hle
              have hle := ble_true.1 hle
              have hle : off + (len + n) * e.size ≤ m := hle
              injection ha with e1 e2
              subst e1 e2
              have hroom : len + n ≤ c' := by
                have h1 : (len + n) * e.size ≤ c' * e.size := by omega
                exact Nat.le_of_mul_le_mul_right h1 hs
              have hst : stOk h b (Nat.add off (Nat.mul len e.size)) new = true := by
                unfold stOk
                rw [hbk]
                show ifB false false (ifB (Nat.ble (Nat.add (Nat.add off (Nat.mul len e.size)) (lenL new)) m) (cellsOk new) false) = true
                rw [ifB_false, ifB_eq, if_pos]
                · exact hk
                · rw [ble_true, lenL_eq]
                  show off + len * e.size + new.length ≤ m
                  omega
              have hrun := hn2 (some ⟨B, off, none⟩) len c' hroom
              simp only [addr_add] at hrun
              intro h' nx' hs'
              obtain ⟨w', μ', q1, q2, q3⟩ := wr_sim (P := P) g hst hm hn1 h' nx' hs'
              have q1 : (storeCells ⟨B, off + len * e.size, none⟩ news).run P w = .ok () w' := q1
              refine ⟨.slice (some ⟨B, off, none⟩) (len + n) c', w', μ', by rw [hrun, q1]; rfl, ?_, q2, q3⟩
              rw [hcs]
              exact .slO off (len + n) e.size c' (q3.mu _ _ hm) hs hN hroom
            · rw [ifB_eq] at ha
              split at ha
              · rename_i hoff
                have hoff := beq_true.1 hoff
                subst hoff
                rw [ifB_eq] at ha
                split at ha
                · rename_i hr
                  rw [ifB_eq] at ha
                  split at ha
                  · rename_i hlm
                    have hlm := ble_true.1 hlm
                    have hlm : len * e.size ≤ m := hlm
                    injection ha with e1 e2
                    subst e1 e2
                    rintro h' nx' ⟨c0, n0, ro0, hb0, rfl, rfl⟩
                    rw [hbk] at hb0
                    injection hb0 with hb0
                    injection hb0 with e1 e2 e3
                    subst e1 e2 e3
                    have hf := (g.fresh nx (Nat.le_refl _)).1
                    by_cases hroom : len + n ≤ c'
                    · have hle' : len * e.size + new.length ≤ N := by
                        have : (len + n) * e.size ≤ c' * e.size := Nat.mul_le_mul_right _ hroom
                        omega
                      obtain ⟨arr', ty', lo', hi', hrun, h1, h2, h3, h4⟩ := store_sim (P := P) g hbk hm hle' hn1 hk (len * e.size + new.length) (fun i hi => by omega)
                      obtain ⟨r1, r2, r3⟩ := setCells_rest B news (len * e.size) w
                      obtain ⟨q1, q2⟩ := g.move (blk' := .cells (putL c new (len * e.size)) (len * e.size + new.length) false) hbk hm rfl (setCells_size B news (len * e.size) w) (fun C hC => setCells_other B C hC news (len * e.size) w)
                        ⟨arr', ty', lo', hi', h1, h2, hle', h3, fun i hi => let ⟨v', a, b⟩ := h4 i hi; ⟨v', a, b.mono (upd_mono _ hf)⟩⟩ r1 r2 r3
                      have hrun2 := hn2 (some ⟨B, 0, none⟩) len c' hroom
                      simp only [addr_add, Nat.zero_add] at hrun2
                      refine ⟨.slice (some ⟨B, 0, none⟩) (len + n) c', _, _, by rw [hrun2, hrun]; rfl, ?_, q1, q2⟩
                      rw [hcs]
                      exact .slO 0 (len + n) e.size c' (upd_same _ _ _) hs hN hroom
                    · obtain ⟨olds, ho1, ho2⟩ := firstC_sim (P := P) (s := e.size) (n := len) g (.slO 0 len e.size c' hm hs hN hlc)
                        (show firstC h e.size len (.sl b 0 len (openCap + e.size)) = some ((List.range (len * e.size)).map fun j => rd c (0 + j)) from by
                          show ldK h b 0 (Nat.mul len e.size) some = _
                          unfold ldK
                          rw [hbk]
                          show ifB (Nat.ble (Nat.add 0 (Nat.mul len e.size)) m) (rdK c (Nat.mul len e.size) 0 some) none = _
                          rw [ifB_eq, if_pos (ble_true.2 (by show 0 + len * e.size ≤ m; omega)), rdK_eq]
                          rfl)
                      obtain ⟨cc, arr2, hcc, rfl, hrun⟩ := hn3 (some ⟨B, 0, none⟩) len c' olds hroom (roomy_fits hr (Nat.lt_of_not_le hroom)) (roomy_small hr hb) (ho1 w.drew rfl)
                      have hol : olds.length = len * e.size := by rw [← ho2.length]; simp
                      have hnel : news.length = n * e.size := by rw [← hn1.length]; exact hnl
                      have hsize : (olds.toArray ++ (news.toArray ++ Builtin.zeroCells zv.cells (cc - (len + n)))).size = cc * e.size := by
                        rw [Array.size_append, Array.size_append, size_zeroCells, hzs]
                        have : cc * e.size = (len + n) * e.size + (cc - (len + n)) * e.size := by rw [← Nat.add_mul]; congr 1; omega
                        show olds.length + (news.length + _) = _
                        omega
                      obtain ⟨d1, d2⟩ := (G.drew (w := w) (w' := w.drew) rfl g).drop hbk hm rfl
                      obtain ⟨q1, q2⟩ := d1.new (.cells (putL c new (len * e.size)) (len * e.size + new.length) false) (.cells (olds.toArray ++ (news.toArray ++ Builtin.zeroCells zv.cells (cc - (len + n)))) elem (0, 0)) (cc * e.size)
                        ⟨_, elem, 0, 0, rfl, hsize, by have : (len + n) * e.size ≤ cc * e.size := Nat.mul_le_mul_right _ hcc; omega, .inl rfl, fun i hi => by
                          rw [rd_putL]
                          have hmo := upd_mono (μ := μ) (i := nx) (w.drew.heap.size, cc * e.size) hf
                          by_cases h1 : i < len * e.size
                          · rw [if_neg (by omega)]
                            obtain ⟨u, hu, hr'⟩ := ho2.get i (rd c (0 + i)) (by simp [h1])
                            rw [Nat.zero_add] at hr'
                            refine ⟨u, ?_, hr'.mono hmo⟩
                            rw [Array.getElem?_append_left (by show i < olds.length; omega)]
                            simpa using hu
                          · rw [if_pos (by omega)]
                            have hlt : i - len * e.size < new.length := by omega
                            obtain ⟨u, hu, hr'⟩ := hn1.get _ _ (List.getElem?_eq_getElem hlt)
                            rw [List.getElem?_eq_getElem hlt]
                            refine ⟨u, ?_, hr'.mono hmo⟩
                            rw [Array.getElem?_append_right (by show olds.length ≤ i; omega)]
                            have : i - olds.toArray.size = i - len * e.size := by show i - olds.length = _; omega
                            rw [this, Array.getElem?_append_left (by show i - len * e.size < news.length; omega)]
                            simpa using hu⟩
                      refine ⟨_, _, _, hrun, ?_, q1, ((Ext.drew rfl rfl rfl rfl : Ext μ h nx w μ h nx w.drew).trans d2).trans q2⟩
                      rw [hcs]
                      exact .slO 0 (len + n) e.size cc (upd_same _ _ _) hs (by omega) hcc
                  · cases ha
                · cases ha
              · cases ha
          · cases ha
        · cases ha
    · cases ha
  · cases ha

theorem oAppend_sim {ats : List TypeId} {ty : TypeId} {s x : V} {s' x' : Value} {v : V} {f : Eff} (hs : VR μ s s') (hx : VR μ x x') (ha : oAppend E ats s x h nx = .val v f) :
    ValE P μ h nx w (Builtin.append_ ⟨ats⟩ ty #[s', x']) v f := by
  unfold oAppend at ha
  rw [nthL_eq] at ha
  split at ha
  · cases ha
  · rename_i st h0
    split at ha
    · rename_i si elem hsi
      obtain ⟨_, hu⟩ := K.ty st si _ hsi
      split at ha
      · rename_i e ed he
        split at ha
        · rename_i z hz
          obtain ⟨zv, _, hz2, hz3⟩ := zeroL_rel (w := w) (μ := μ) K he hz
          rw [ifB_eq] at ha
          split at ha
          · rename_i hzl
            have hzl := beq_true.1 hzl
            rw [lenL_eq] at hzl
            have hzs : zv.cells.size = e.size := by rw [← hzl, hz3.length]; rfl
            rw [ifB_eq] at ha
            split at ha
            · cases ha
            · rename_i hsz
              have hsz : 0 < e.size := Nat.pos_of_ne_zero fun h' => hsz (by rw [h']; rfl)
              rw [ifB_eq] at ha
              split at ha
              · cases ha
              · rename_i hby
                have hby : e.bytes ≠ 0 := fun h' => hby (by rw [h']; rfl)
                split at ha
                · cases ha
                · rename_i n new hap
                  have A := appended_sim (ty := ty) (w := w) K g h0 hu he hz2 hzs (fun z' hz' => by rw [hz] at hz'; injection hz' with hz'; subst hz'; exact hz3) hby hx hap
                  unfold oAppendTo at ha
                  split at ha
                  · rename_i len cap
                    cases hs
                    rw [ifB_eq] at ha
                    split at ha
                    · cases ha
                    · rw [ifB_eq] at ha
                      split at ha
                      · rename_i hroom
                        have hroom : len + n ≤ cap := ble_true.1 hroom
                        injection ha with e1 e2
                        subst e1 e2
                        obtain ⟨news, _, hn2, _⟩ := A.news
                        rintro h' nx' ⟨rfl, rfl⟩
                        exact ⟨_, w, μ, hn2 none len cap hroom, .sl0 _ _, g, Ext.refl _ _ _ _⟩
                      · rename_i hroom
                        have hroom : ¬ len + n ≤ cap := fun hle => hroom (ble_true.2 hle)
                        exact appNew_sim g A hzs hsz hby hroom ⟨[], by simp [Builtin.firstCells], .nil⟩ ha
                  · rename_i b off len cap
                    rw [ifB_eq] at ha
                    split at ha
                    · rename_i hc
                      obtain ⟨B, N, s0, c', hm, hs0, hN, hn, hcs, rfl⟩ := sl_open hs (ble_true.1 hc)
                      exact appOpen_sim g A hm hzs hsz hby hs0 hN hn hcs ha
                    · rename_i hc
                      have hc : ¬ openCap ≤ cap := fun hle => hc (ble_true.2 hle)
                      obtain ⟨B, N, hm, rfl⟩ := sl_exact hs hc
                      exact appExact_sim g A hm hzs hsz hby (Nat.lt_of_not_le hc) ha
                  · cases ha
          · cases ha
        · cases ha
      · cases ha
    · cases ha

end
end Go.AM
