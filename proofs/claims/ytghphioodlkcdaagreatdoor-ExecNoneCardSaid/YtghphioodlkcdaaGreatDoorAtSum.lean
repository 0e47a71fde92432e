/- The summary of (*store.dict).at: as the abstract machine reckons it, so it is. -/
import Derived.Test.YtghphioodlkcdaaGreatDoorAm32
import Derived.Test.YtghphioodlkcdaaGreatDoorAt
namespace Go.Proofs.YtghphioodlkcdaaGreatDoor
open Go Go.AM Go.Proofs Go.RowKit

theorem tyOk_cons {c : Nat} {cs : List Nat} {l : List V} (h : tyOk (c :: cs) l = true) : ∃ v r, l = v :: r ∧ tyOk1 c v = true ∧ tyOk cs r = true := by
  cases l with
  | nil => cases h
  | cons v r =>
    have h : ifB (tyOk1 c v) (tyOk cs r) false = true := h
    obtain ⟨h1, h2⟩ := ifB_and h
    exact ⟨v, r, rfl, h1, h2⟩
theorem tyOk_nil {l : List V} (h : tyOk [] l = true) : l = [] := by
  cases l with
  | nil => rfl
  | cons => cases h
theorem tyOk1_b {v : V} (h : tyOk1 0 v = true) : ∃ b, v = .b b := by cases v <;> first | exact ⟨_, rfl⟩ | cases h
theorem tyOk1_s {v : V} (h : tyOk1 2 v = true) : ∃ l, v = .s l := by cases v <;> first | exact ⟨_, rfl⟩ | cases h
theorem tyOk1_i {v : V} (h : tyOk1 1 v = true) : ∃ n, v = .i .i64 n := by
  cases v <;> first | (cases h; done) | skip
  rename_i k n
  have h : kindEq k .i64 = true := h
  rw [kindEq_true h]
  exact ⟨n, rfl⟩

def pairKinds : List Nat := [1, 0, 1, 1, 2, 1, 1, 1]

/-- A key's cells. -/
def PairV.keyV (x : PairV) : List V := [.i .i64 x.n0, .b x.b1, .i .i64 x.n2, .i .i64 x.n3, .s x.s4.data.toList, .i .i64 x.n5, .i .i64 x.n6, .i .i64 x.n7]

theorem key_of {l : List V} (h : tyOk pairKinds l = true) (v8 v9 v10 v11 v12 v13 v14 v15 : Value) : ∃ x : PairV, l = x.keyV ∧ x.v8 = v8 ∧ x.v9 = v9 ∧ x.v10 = v10 ∧ x.v11 = v11 ∧ x.v12 = v12 ∧ x.v13 = v13 ∧ x.v14 = v14 ∧ x.v15 = v15 := by
  obtain ⟨a0, r, rfl, h0, h⟩ := tyOk_cons h
  obtain ⟨a1, r, rfl, h1, h⟩ := tyOk_cons h
  obtain ⟨a2, r, rfl, h2, h⟩ := tyOk_cons h
  obtain ⟨a3, r, rfl, h3, h⟩ := tyOk_cons h
  obtain ⟨a4, r, rfl, h4, h⟩ := tyOk_cons h
  obtain ⟨a5, r, rfl, h5, h⟩ := tyOk_cons h
  obtain ⟨a6, r, rfl, h6, h⟩ := tyOk_cons h
  obtain ⟨a7, r, rfl, h7, h⟩ := tyOk_cons h
  obtain rfl := tyOk_nil h
  obtain ⟨n0, rfl⟩ := tyOk1_i h0
  obtain ⟨b1, rfl⟩ := tyOk1_b h1
  obtain ⟨n2, rfl⟩ := tyOk1_i h2
  obtain ⟨n3, rfl⟩ := tyOk1_i h3
  obtain ⟨s4, rfl⟩ := tyOk1_s h4
  obtain ⟨n5, rfl⟩ := tyOk1_i h5
  obtain ⟨n6, rfl⟩ := tyOk1_i h6
  obtain ⟨n7, rfl⟩ := tyOk1_i h7
  exact ⟨⟨n0, b1, n2, n3, ⟨⟨s4⟩⟩, n5, n6, n7, v8, v9, v10, v11, v12, v13, v14, v15⟩, rfl, rfl, rfl, rfl, rfl, rfl, rfl, rfl, rfl⟩

theorem key_rel {μ : Mu} {x : PairV} {l : List Value} (h : VL μ x.keyV l) : l = x.key := by
  unfold PairV.keyV at h
  cases h with | cons h0 h => cases h with | cons h1 h => cases h with | cons h2 h => cases h with | cons h3 h => cases h with | cons h4 h => cases h with | cons h5 h => cases h with | cons h6 h => cases h with | cons h7 h =>
  cases h; cases h0; cases h1; cases h2; cases h3; cases h5; cases h6; cases h7
  generalize hs : x.s4.data.toList = s at h4
  cases h4
  subst hs
  rfl

theorem plain_key (x y : PairV) : plainEq pairKinds x.keyV y.keyV = some (x.same y) := by
  have hs : bytesEq x.s4.data.toList y.s4.data.toList = (x.s4.toList == y.s4.toList) := by
    rw [bytesEq_eq, ByteArray.toList_eq, ByteArray.toList_eq, beqL]
  have hb : ∀ a b : Bool, ifB a b (Bool.not b) = (a == b) := by intro a b; cases a <;> cases b <;> rfl
  have hi : ∀ a b : Int, intEq a b = (a == b) := by intro a b; rw [intEq_eq]; rw [Bool.eq_iff_iff]; simp
  have step : ∀ (b c : Bool), ifB b (some c) (some false) = some (b && c) := by intro b c; cases b <;> rfl
  show ifB (intEq x.n0 y.n0) (ifB (ifB x.b1 y.b1 (Bool.not y.b1)) (ifB (intEq x.n2 y.n2) (ifB (intEq x.n3 y.n3) (ifB (bytesEq x.s4.data.toList y.s4.data.toList) (ifB (intEq x.n5 y.n5) (ifB (intEq x.n6 y.n6) (ifB (intEq x.n7 y.n7) (some true) (some false)) (some false)) (some false)) (some false)) (some false)) (some false)) (some false)) (some false) = _
  rw [hs, hb, hi, hi, hi, hi, hi, hi, step, step, step, step, step, step, step, step, Bool.and_true]
  rfl

theorem rowsF_spec {μ : Mu} {w : World} {B m : Nat} {c : T V} (hcell : ∀ i, i < m → ∃ v', w.cell? ⟨B, i, none⟩ = some v' ∧ VR μ (rd c i) v') (y : PairV) : ∀ (n i off : Nat) (z : Int) (v : V), off + n * 16 ≤ m → (z = -1 ∨ 0 ≤ z) →
    rowsF pairKinds 8 16 c y.keyV n i off z = some v → ∃ zs : List PairV, zs.length = n ∧ (∀ j, j < n → ∀ i' v', (zs[j]!).enc[i']? = some v' → w.cell? ⟨B, off + j * 16 + i', none⟩ = some v') ∧ v = .i .i64 (if z = -1 then Lib.idxByFrom (fun _ x => x.same y) default zs i else z)
  | 0, i, off, z, v, _, _, e => by
    have e : some (V.i .i64 z) = some v := e
    injection e with e
    subst e
    refine ⟨[], rfl, fun j hj => absurd hj (Nat.not_lt_zero _), ?_⟩
    by_cases hz : z = -1
    · rw [if_pos hz, hz]; rfl
    · rw [if_neg hz]
  | n + 1, i, off, z, v, hm, hz, e => by
    have e : rdK c 8 off (fun l => ifB (tyOk pairKinds l) (rowR pairKinds y.keyV l i z (fun z => fN (Nat.add off 16) (fun off => fN (Nat.succ i) (fun i => rowsF pairKinds 8 16 c y.keyV n i off z)))) none) = some v := e
    rw [rdK_eq] at e
    obtain ⟨hty, e⟩ := ifB_none e
    have get : ∀ k, k < 16 → ∃ v', w.cell? ⟨B, off + k, none⟩ = some v' ∧ VR μ (rd c (off + k)) v' := fun k hk => hcell (off + k) (by omega)
    obtain ⟨u0, p0, q0⟩ := get 0 (by omega)
    obtain ⟨u1, p1, q1⟩ := get 1 (by omega)
    obtain ⟨u2, p2, q2⟩ := get 2 (by omega)
    obtain ⟨u3, p3, q3⟩ := get 3 (by omega)
    obtain ⟨u4, p4, q4⟩ := get 4 (by omega)
    obtain ⟨u5, p5, q5⟩ := get 5 (by omega)
    obtain ⟨u6, p6, q6⟩ := get 6 (by omega)
    obtain ⟨u7, p7, q7⟩ := get 7 (by omega)
    obtain ⟨u8, p8, _⟩ := get 8 (by omega)
    obtain ⟨u9, p9, _⟩ := get 9 (by omega)
    obtain ⟨u10, p10, _⟩ := get 10 (by omega)
    obtain ⟨u11, p11, _⟩ := get 11 (by omega)
    obtain ⟨u12, p12, _⟩ := get 12 (by omega)
    obtain ⟨u13, p13, _⟩ := get 13 (by omega)
    obtain ⟨u14, p14, _⟩ := get 14 (by omega)
    obtain ⟨u15, p15, _⟩ := get 15 (by omega)
    obtain ⟨x, hx, x8, x9, x10, x11, x12, x13, x14, x15⟩ := key_of hty u8 u9 u10 u11 u12 u13 u14 u15
    have hrow : VL μ x.keyV [u0, u1, u2, u3, u4, u5, u6, u7] := by
      rw [← hx]
      exact .cons q0 (.cons q1 (.cons q2 (.cons q3 (.cons q4 (.cons q5 (.cons q6 (.cons q7 .nil)))))))
    have hkey := key_rel hrow
    unfold PairV.key at hkey
    injection hkey with k0 hkey
    injection hkey with k1 hkey
    injection hkey with k2 hkey
    injection hkey with k3 hkey
    injection hkey with k4 hkey
    injection hkey with k5 hkey
    injection hkey with k6 hkey
    injection hkey with k7 _
    have henc : ∀ i' v', x.enc[i']? = some v' → w.cell? ⟨B, off + i', none⟩ = some v' := by
      intro i' v' h
      have hlt : i' < 16 := (List.getElem?_eq_some_iff.1 h).1
      have hcase : i' = 0 ∨ i' = 1 ∨ i' = 2 ∨ i' = 3 ∨ i' = 4 ∨ i' = 5 ∨ i' = 6 ∨ i' = 7 ∨ i' = 8 ∨ i' = 9 ∨ i' = 10 ∨ i' = 11 ∨ i' = 12 ∨ i' = 13 ∨ i' = 14 ∨ i' = 15 := by omega
      rcases hcase with rfl | rfl | rfl | rfl | rfl | rfl | rfl | rfl | rfl | rfl | rfl | rfl | rfl | rfl | rfl | rfl <;> (injection h with h; subst h; first | (rw [← k0]; exact p0) | (rw [← k1]; exact p1) | (rw [← k2]; exact p2) | (rw [← k3]; exact p3) | (rw [← k4]; exact p4) | (rw [← k5]; exact p5) | (rw [← k6]; exact p6) | (rw [← k7]; exact p7) | (rw [x8]; exact p8) | (rw [x9]; exact p9) | (rw [x10]; exact p10) | (rw [x11]; exact p11) | (rw [x12]; exact p12) | (rw [x13]; exact p13) | (rw [x14]; exact p14) | (rw [x15]; exact p15))
    have next : ∀ z', (z' = -1 ∨ 0 ≤ z') → rowsF pairKinds 8 16 c y.keyV n (i + 1) (off + 16) z' = some v → (z = -1 → z' = if x.same y = true then (i : Int) else -1) → (z ≠ -1 → z' = z) →
        ∃ zs : List PairV, zs.length = n + 1 ∧ (∀ j, j < n + 1 → ∀ i' v', (zs[j]!).enc[i']? = some v' → w.cell? ⟨B, off + j * 16 + i', none⟩ = some v') ∧ v = .i .i64 (if z = -1 then Lib.idxByFrom (fun _ x => x.same y) default zs i else z) := by
      intro z' hz' e' h1 h2
      obtain ⟨zs, g1, g2, g3⟩ := rowsF_spec hcell y n (i + 1) (off + 16) z' v (by omega) hz' e'
      refine ⟨x :: zs, by simp [g1], fun j hj i' v' h => ?_, ?_⟩
      · cases j with
        | zero => rw [Nat.zero_mul, Nat.add_zero]; exact henc i' v' (by simpa using h)
        | succ j =>
          have := g2 j (by omega) i' v' (by simpa using h)
          rwa [show off + (j + 1) * 16 + i' = off + 16 + j * 16 + i' from by omega]
      · rw [g3]
        by_cases hz1 : z = -1
        · rw [if_pos hz1]
          have := h1 hz1
          show _ = V.i .i64 (if x.same y = true then (i : Int) else Lib.idxByFrom (fun _ x => x.same y) default zs (i + 1))
          by_cases hs : x.same y = true
          · rw [if_pos hs] at this ⊢
            rw [this, if_neg (by omega)]
          · rw [if_neg hs] at this ⊢
            rw [this, if_pos rfl]
        · rw [if_neg hz1, h2 hz1, if_neg hz1]
    have e : rowR pairKinds y.keyV x.keyV i z (fun z => rowsF pairKinds 8 16 c y.keyV n (i + 1) (off + 16) z) = some v := by
      rw [← hx]; exact e
    cases z with
    | ofNat a => exact next _ (.inr (Int.natCast_nonneg a)) e (fun h => by cases h) (fun _ => rfl)
    | negSucc a =>
      have ha : a = 0 := by rcases hz with h | h <;> omega
      subst ha
      have e : (match plainEq pairKinds x.keyV y.keyV with | some b => ifB b (rowsF pairKinds 8 16 c y.keyV n (i + 1) (off + 16) (.ofNat i)) (rowsF pairKinds 8 16 c y.keyV n (i + 1) (off + 16) (.negSucc 0)) | none => none) = some v := e
      rw [plain_key] at e
      have e : ifB (x.same y) (rowsF pairKinds 8 16 c y.keyV n (i + 1) (off + 16) (.ofNat i)) (rowsF pairKinds 8 16 c y.keyV n (i + 1) (off + 16) (.negSucc 0)) = some v := e
      rw [ifB_eq] at e
      split at e
      · rename_i hs
        exact next _ (.inr (Int.natCast_nonneg i)) e (fun _ => by rw [if_pos hs]) (fun h => absurd rfl h)
      · rename_i hs
        exact next _ (.inl rfl) e (fun _ => by rw [if_neg hs]) (fun h => absurd rfl h)

theorem ext_below {μ : Mu} {h : Heap} {nx : Nat} {w w' : World} (g : G μ h nx w) (b : Below w.heap.size w w') : G μ h nx w' ∧ Ext μ h nx w μ h nx w' :=
  ⟨⟨fun i blk B N e em => by rw [b.block B (g.low i B N em)]; exact g.blk i blk B N e em, g.inj, g.fresh, fun i B N em => Nat.lt_of_lt_of_le (g.low i B N em) b.size⟩,
   ⟨fun _ _ e => e, Nat.le_refl _, fun _ _ e => e, fun _ _ _ => rfl, fun _ _ e _ => e, b.size, fun B hB _ => b.block B hB, fun _ _ e => e, b.os, b.output, b.tape⟩⟩

/-- As it is reckoned, so it is. -/
theorem sPairs_ok {args : List V} {h : Heap} {v : V} (e : sPairs 2 pairKinds 8 16 args h = some v) {μ : Mu} {nx : Nat} {w : World} {args' : List Value} (ha : VL μ args args') (g : G μ h nx w) :
    Enters Tryz.prog 70 ∧ Calls Tryz.prog 70 ⟨args'⟩ w fun en w' => ∃ v' μ', en = .returned v' ∧ VR μ' v v' ∧ G μ' h nx w' ∧ Ext μ h nx w μ' h nx w' := by
  refine ⟨enters (c := Tryz.f70.body.get rfl) Tryz.func70 (by kernel_rfl) (by kernel_rfl), ?_⟩
  unfold sPairs at e
  split at e
  · rename_i d off key
    obtain ⟨hty, e⟩ := ifB_none e
    obtain ⟨y, rfl, _⟩ := key_of hty undef undef undef undef undef undef undef undef
    cases ha with | cons h1 t => cases t with | cons h2 t =>
    cases t
    cases h2 with | agg h2 =>
    have hkey := key_rel h2
    subst hkey
    cases h1 with | @p _ D N _ hD =>
    split at e
    · rename_i c m ro hd
      obtain ⟨hle, e⟩ := ifB_none e
      have hle := ble_true.1 hle
      obtain ⟨arr, ty, lo, hi, b1, b2, b3, b4, b5⟩ := g.blk d _ D N hd hD
      obtain ⟨sv, s1, s2⟩ := b5 (off + 2) hle
      have hcell : w.cell? ⟨D, off + 2, none⟩ = some sv := by rw [cell_at b1]; exact s1
      have s2 : VR μ (rd c (Nat.add off 2)) sv := s2
      generalize rd c (Nat.add off 2) = rv at *
      split at e
      · rename_i n cp _ s2
        obtain ⟨hn, e⟩ := ifB_none e
        have hn := beq_true.1 hn
        subst hn
        injection e with e
        subst e
        cases s2
        exact (at_nil y D off cp w hcell).mono fun en w' ⟨q1, q2⟩ => ⟨_, μ, q1, .i _ _, ext_below g q2⟩
      · rename_i b o n cp _ s2
        split at e
        · rename_i c2 m2 ro2 hb
          obtain ⟨hn, e⟩ := ifB_none e
          have hn := ble_true.1 hn
          obtain ⟨hle2, e⟩ := ifB_none e
          have hle2 : o + n * 16 ≤ m2 := ble_true.1 hle2
          have fin : ∀ (B M cp' : Nat), μ b = some (B, M) → sv = .slice (some ⟨B, o, none⟩) n cp' → Calls Tryz.prog 70 ⟨[.pointer (some ⟨D, off, none⟩), .agg ⟨y.key⟩]⟩ w fun en w' => ∃ v' μ', en = .returned v' ∧ VR μ' v v' ∧ G μ' h nx w' ∧ Ext μ h nx w μ' h nx w' := by
            intro B M cp' hB hsv
            obtain ⟨arr2, ty2, lo2, hi2, c1, c2', c3, c4, c5⟩ := g.blk b _ B M hb hB
            obtain ⟨zs, z1, z2, z3⟩ := rowsF_spec (μ := μ) (w := w) (B := B) (m := m2) (c := c2) (fun i hi => by
              obtain ⟨v', g1, g2⟩ := c5 i hi
              exact ⟨v', by rw [cell_at c1]; exact g1, g2⟩) y n 0 o (-1) v hle2 (.inl rfl) e
            rw [if_pos rfl] at z3
            subst z3
            rw [hsv] at hcell
            exact (at_pairs y D off B o n cp' zs w z1 (by omega) (g.low b B M hB) hcell (fun j hj => z2 j (by omega))).mono fun en w' ⟨q1, q2⟩ => ⟨_, μ, q1, .i _ _, ext_below g q2⟩
          cases s2 with
          | sl _ _ _ hB _ => exact fin _ _ _ hB rfl
          | slO _ _ _ c' hB _ _ _ => exact fin _ _ _ hB rfl
        · cases e
      · cases e
    · cases e
  · cases e
end Go.Proofs.YtghphioodlkcdaaGreatDoor
