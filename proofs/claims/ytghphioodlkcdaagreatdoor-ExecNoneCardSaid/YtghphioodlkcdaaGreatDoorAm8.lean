/- THE ABSTRACT MACHINE, part 8: numbers: what is reckoned quickly is what the model reckons. -/
import Derived.Test.YtghphioodlkcdaaGreatDoorAm7
import Derived.IntWalk
namespace Go.AM
open Go

theorem wrap_nat (k : IntKind) (a : Nat) (h : a ≤ topOf k) : k.wrap (Int.ofNat a) = Int.ofNat a := by
  have h0 : (0 : Int) ≤ Int.ofNat a := Int.natCast_nonneg a
  cases k with
  | i8 => exact IntWalk.i8_in _ ⟨Int.le_trans (by decide) h0, Int.ofNat_le.2 h⟩
  | i16 => exact IntWalk.i16_in _ ⟨Int.le_trans (by decide) h0, Int.ofNat_le.2 h⟩
  | i32 => exact IntWalk.i32_in _ ⟨Int.le_trans (by decide) h0, Int.ofNat_le.2 h⟩
  | i64 => exact IntWalk.i64_in _ ⟨Int.le_trans (by decide) h0, Int.ofNat_le.2 h⟩
  | u8 => exact IntWalk.u8_in _ ⟨h0, Int.ofNat_le.2 h⟩
  | u16 => exact IntWalk.u16_in _ ⟨h0, Int.ofNat_le.2 h⟩
  | u32 => exact IntWalk.u32_in _ ⟨h0, Int.ofNat_le.2 h⟩
  | u64 => exact IntWalk.u64_in _ ⟨h0, Int.ofNat_le.2 h⟩

theorem wrap_neg (k : IntKind) (a : Nat) (hs : sgn k = true) (h : a ≤ topOf k) : k.wrap (Int.negSucc a) = Int.negSucc a := by
  have h0 : Int.negSucc a ≤ 0 := Int.le_of_lt (Int.negSucc_lt_zero a)
  have key : ∀ n : Nat, a ≤ n → Int.negSucc n ≤ Int.negSucc a := fun n hn => by rw [Int.negSucc_eq, Int.negSucc_eq]; omega
  cases k with
  | i8 => exact IntWalk.i8_in _ ⟨key _ h, Int.le_trans h0 (by decide)⟩
  | i16 => exact IntWalk.i16_in _ ⟨key _ h, Int.le_trans h0 (by decide)⟩
  | i32 => exact IntWalk.i32_in _ ⟨key _ h, Int.le_trans h0 (by decide)⟩
  | i64 => exact IntWalk.i64_in _ ⟨key _ h, Int.le_trans h0 (by decide)⟩
  | u8 => cases hs
  | u16 => cases hs
  | u32 => cases hs
  | u64 => cases hs

theorem wrK_eq {R : Type} (k : IntKind) (n : Int) (g : Int → R) : wrK k n g = g (k.wrap n) := by
  cases n with
  | ofNat a =>
    show fN a (fun a => ifB (Nat.ble a (topOf k)) (g (.ofNat a)) (fI (k.wrap (.ofNat a)) g)) = _
    rw [fN_eq, ifB_eq, fI_eq]
    split
    · rename_i h; rw [wrap_nat k a (ble_true.1 h)]
    · rfl
  | negSucc a =>
    show fN a (fun a => ifB (sgn k) (ifB (Nat.ble a (topOf k)) (g (.negSucc a)) (fI (k.wrap (.negSucc a)) g)) (fI (k.wrap (.negSucc a)) g)) = _
    rw [fN_eq, ifB_eq, ifB_eq, fI_eq]
    split
    · rename_i hs
      split
      · rename_i h; rw [wrap_neg k a hs (ble_true.1 h)]
      · rfl
    · rfl

theorem kindEq_eq (a b : IntKind) : kindEq a b = decide (a = b) := by
  cases a <;> cases b <;> rfl

theorem topOf_pow (k : IntKind) : ∃ m, topOf k + 1 = 2 ^ m ∧ m ≤ k.bits := by
  cases k
  · exact ⟨7, rfl, by decide⟩
  · exact ⟨15, rfl, by decide⟩
  · exact ⟨31, rfl, by decide⟩
  · exact ⟨63, rfl, by decide⟩
  · exact ⟨8, rfl, by decide⟩
  · exact ⟨16, rfl, by decide⟩
  · exact ⟨32, rfl, by decide⟩
  · exact ⟨64, rfl, by decide⟩

theorem ofInt_toNat (k : IntKind) (x : Nat) (h : x ≤ topOf k) : (BitVec.ofInt k.bits (Int.ofNat x)).toNat = x := by
  obtain ⟨m, hm, hmb⟩ := topOf_pow k
  have hlt : x < 2 ^ k.bits := Nat.lt_of_lt_of_le (by omega) (Nat.pow_le_pow_right (by omega) hmb)
  simp only [BitVec.toNat_ofInt, Int.ofNat_eq_natCast]
  have : ((x : Int) % ((2 ^ k.bits : Nat) : Int)).toNat = x % 2 ^ k.bits := by
    rw [← Int.natCast_emod]; rfl
  rw [this, Nat.mod_eq_of_lt hlt]

theorem land_le (k : IntKind) (x y : Nat) (hx : x ≤ topOf k) : Nat.land x y ≤ topOf k := Nat.le_trans (Nat.and_le_left (n := x) (m := y)) hx
theorem lor_le (k : IntKind) (x y : Nat) (hx : x ≤ topOf k) (hy : y ≤ topOf k) : Nat.lor x y ≤ topOf k := by
  obtain ⟨m, hm, _⟩ := topOf_pow k
  have := Nat.or_lt_two_pow (x := x) (y := y) (n := m) (by omega) (by omega)
  show x ||| y ≤ _
  omega
theorem xor_le (k : IntKind) (x y : Nat) (hx : x ≤ topOf k) (hy : y ≤ topOf k) : Nat.xor x y ≤ topOf k := by
  obtain ⟨m, hm, _⟩ := topOf_pow k
  have := Nat.xor_lt_two_pow (x := x) (y := y) (n := m) (by omega) (by omega)
  show x ^^^ y ≤ _
  omega

theorem gI_eq {R : Type} (k : IntKind) (n : Int) (g : V → Option R) : gI k n g = g (.i k n) := fI_eq n _
theorem gW_eq {R : Type} (k : IntKind) (n : Int) (g : V → Option R) : gW k n g = g (.i k (k.wrap n)) := wrK_eq k n _
theorem gB_eq {R : Type} (c : Bool) (g : V → Option R) : gB c g = g (.b c) := fB_eq c _

theorem bitK_eq {R : Type} (k : IntKind) (a b : Int) (g : V → Option R) (f : Nat → Nat → Nat) (d : Int)
    (hf : ∀ x y, x ≤ topOf k → y ≤ topOf k → a = .ofNat x → b = .ofNat y → d = .ofNat (f x y)) : bitK k a b g f d = g (.i k d) := by
  cases a with
  | negSucc a => exact gI_eq k d g
  | ofNat x => cases b with
    | negSucc b => exact gI_eq k d g
    | ofNat y =>
      show ifB (Nat.ble x (topOf k)) (ifB (Nat.ble y (topOf k)) (gI k (.ofNat (f x y)) g) (gI k d g)) (gI k d g) = _
      rw [ifB_eq, ifB_eq, gI_eq, gI_eq]
      split
      · rename_i hx
        split
        · rename_i hy; rw [hf x y (ble_true.1 hx) (ble_true.1 hy) rfl rfl]
        · rfl
      · rfl

theorem shAmt_eq (k : IntKind) (b : Nat) : shAmt k b = min b k.bits := by
  have hb : bitsOf k = k.bits := by cases k <;> rfl
  unfold shAmt
  rw [ifB_eq, ble_eq, hb]
  simp only [decide_eq_true_eq, Nat.min_def]

/-- An operation on two integers. -/
theorem binI_sim {R : Type} {r : R} {P : Program} {μ : Mu} {w : World} {op : BinOp} {k k' : IntKind} {a b : Int} {t : TypeId} {g : V → Option R} (e : binI k a b g op k' = some r) :
    ∃ v, g v = some r ∧ Val P μ w (binOp op t (.int k a) (.int k' b)) v := by
  have same : ifB (kindEq k k') (intK k a b g op) none = some r → k = k' ∧ intK k a b g op = some r := fun h => by
    obtain ⟨h1, h2⟩ := ifB_none h
    rw [kindEq_eq, decide_eq_true_eq] at h1
    exact ⟨h1, h2⟩
  cases op with
  | shl =>
    cases b with
    | negSucc m => cases e
    | ofNat m =>
      have key : ∀ n : Int, k.wrap n = k.wrap (a * 2 ^ min m k.bits) → g (.i k (k.wrap n)) = some r → ∃ v, g v = some r ∧ Val P μ w (binOp .shl t (.int k a) (.int k' (Int.ofNat m))) v := fun n hn hg =>
        ⟨_, hg, _, by rw [hn]; simp [binOp, Op.shift, show ¬ ((m : Int) < 0) from by omega], .i k _⟩
      cases a with
      | ofNat x =>
        have e : gW k (.ofNat (Nat.shiftLeft x (shAmt k m))) g = some r := e
        rw [gW_eq, shAmt_eq] at e
        refine key _ ?_ e
        have h1 : Nat.shiftLeft x (min m k.bits) = x * 2 ^ min m k.bits := Nat.shiftLeft_eq x _
        rw [h1]
        simp
      | negSucc x =>
        have e : gW k (Int.negSucc x * 2 ^ (shAmt k m)) g = some r := e
        rw [gW_eq, shAmt_eq] at e
        exact key _ rfl e
  | shr =>
    cases b with
    | negSucc m => cases e
    | ofNat m =>
      have key : ∀ n : Int, n = a.fdiv (2 ^ min m k.bits) → g (.i k n) = some r → ∃ v, g v = some r ∧ Val P μ w (binOp .shr t (.int k a) (.int k' (Int.ofNat m))) v := fun n hn hg =>
        ⟨_, hg, _, by rw [hn]; simp [binOp, Op.shift, show ¬ ((m : Int) < 0) from by omega], .i k _⟩
      cases a with
      | ofNat x =>
        have e : gI k (.ofNat (Nat.shiftRight x (shAmt k m))) g = some r := e
        rw [gI_eq, shAmt_eq] at e
        refine key _ ?_ e
        have h1 : Nat.shiftRight x (min m k.bits) = x / 2 ^ min m k.bits := Nat.shiftRight_eq_div_pow x _
        rw [h1, Int.fdiv_eq_ediv_of_nonneg _ (by exact Int.le_of_lt (Int.pow_pos (by decide)))]
        simp
      | negSucc x =>
        have e : gI k ((Int.negSucc x).fdiv (2 ^ (shAmt k m))) g = some r := e
        rw [gI_eq, shAmt_eq] at e
        exact key _ rfl e
  | add =>
    obtain ⟨hk, e1⟩ := same e
    clear e same
    subst hk
    have e := e1
    clear e1
    have e : gW k (a + b) g = some r := e
    rw [gW_eq] at e
    exact ⟨_, e, _, by simp [binOp, Op.intArith], .i k _⟩
  | sub =>
    obtain ⟨hk, e1⟩ := same e
    clear e same
    subst hk
    have e := e1
    clear e1
    have e : gW k (a - b) g = some r := e
    rw [gW_eq] at e
    exact ⟨_, e, _, by simp [binOp, Op.intArith], .i k _⟩
  | mul =>
    obtain ⟨hk, e1⟩ := same e
    clear e same
    subst hk
    have e := e1
    clear e1
    have e : gW k (a * b) g = some r := e
    rw [gW_eq] at e
    exact ⟨_, e, _, by simp [binOp, Op.intArith], .i k _⟩
  | quo =>
    obtain ⟨hk, e1⟩ := same e
    clear e same
    subst hk
    have e := e1
    clear e1
    have e : ifB (intEq b 0) none (gW k (a.tdiv b) g) = some r := e
    obtain ⟨hb, e⟩ := ifB_none' e
    rw [intEq_eq, decide_eq_false_iff_not] at hb
    rw [gW_eq] at e
    exact ⟨_, e, _, by simp [binOp, Op.intDiv, hb], .i k _⟩
  | rem =>
    obtain ⟨hk, e1⟩ := same e
    clear e same
    subst hk
    have e := e1
    clear e1
    have e : ifB (intEq b 0) none (gI k (a.tmod b) g) = some r := e
    obtain ⟨hb, e⟩ := ifB_none' e
    rw [intEq_eq, decide_eq_false_iff_not] at hb
    rw [gI_eq] at e
    exact ⟨_, e, _, by simp [binOp, Op.intDiv, hb], .i k _⟩
  | and =>
    obtain ⟨hk, e1⟩ := same e
    clear e same
    subst hk
    have e := e1
    clear e1
    have e : bitK k a b g Nat.land (k.wrap (Int.ofNat ((BitVec.ofInt k.bits a) &&& (BitVec.ofInt k.bits b)).toNat)) = some r := e
    rw [bitK_eq] at e
    · exact ⟨_, e, _, by simp [binOp, Op.intBits], .i k _⟩
    · rintro x y hx hy rfl rfl
      rw [BitVec.toNat_and, ofInt_toNat k x hx, ofInt_toNat k y hy]
      exact wrap_nat k _ (land_le k x y hx)
  | or =>
    obtain ⟨hk, e1⟩ := same e
    clear e same
    subst hk
    have e := e1
    clear e1
    have e : bitK k a b g Nat.lor (k.wrap (Int.ofNat ((BitVec.ofInt k.bits a) ||| (BitVec.ofInt k.bits b)).toNat)) = some r := e
    rw [bitK_eq] at e
    · exact ⟨_, e, _, by simp [binOp, Op.intBits], .i k _⟩
    · rintro x y hx hy rfl rfl
      rw [BitVec.toNat_or, ofInt_toNat k x hx, ofInt_toNat k y hy]
      exact wrap_nat k _ (lor_le k x y hx hy)
  | xor =>
    obtain ⟨hk, e1⟩ := same e
    clear e same
    subst hk
    have e := e1
    clear e1
    have e : bitK k a b g Nat.xor (k.wrap (Int.ofNat ((BitVec.ofInt k.bits a) ^^^ (BitVec.ofInt k.bits b)).toNat)) = some r := e
    rw [bitK_eq] at e
    · exact ⟨_, e, _, by simp [binOp, Op.intBits], .i k _⟩
    · rintro x y hx hy rfl rfl
      rw [BitVec.toNat_xor, ofInt_toNat k x hx, ofInt_toNat k y hy]
      exact wrap_nat k _ (xor_le k x y hx hy)
  | andNot =>
    obtain ⟨hk, e1⟩ := same e
    clear e same
    subst hk
    have e := e1
    clear e1
    have e : gI k (k.wrap (Int.ofNat ((BitVec.ofInt k.bits a) &&& ~~~(BitVec.ofInt k.bits b)).toNat)) g = some r := e
    rw [gI_eq] at e
    exact ⟨_, e, _, by simp [binOp, Op.intBits], .i k _⟩
  | eql =>
    obtain ⟨hk, e1⟩ := same e
    clear e same
    subst hk
    have e := e1
    clear e1
    have e : gB (intEq a b) g = some r := e
    rw [gB_eq] at e
    exact ⟨_, e, .bool (intEq a b), by simp [binOp, Op.intCmp, intEq_eq]; rfl, .b _⟩
  | neq =>
    obtain ⟨hk, e1⟩ := same e
    clear e same
    subst hk
    have e := e1
    clear e1
    have e : gB (Bool.not (intEq a b)) g = some r := e
    rw [gB_eq] at e
    exact ⟨_, e, .bool (Bool.not (intEq a b)), by simp [binOp, Op.intCmp, intEq_eq, bne]; rfl, .b _⟩
  | lss =>
    obtain ⟨hk, e1⟩ := same e
    clear e same
    subst hk
    have e := e1
    clear e1
    have e : gB (intLt a b) g = some r := e
    rw [gB_eq] at e
    exact ⟨_, e, .bool (intLt a b), by simp [binOp, Op.intCmp, intLt_eq], .b _⟩
  | leq =>
    obtain ⟨hk, e1⟩ := same e
    clear e same
    subst hk
    have e := e1
    clear e1
    have e : gB (Bool.not (intLt b a)) g = some r := e
    rw [gB_eq] at e
    exact ⟨_, e, .bool (Bool.not (intLt b a)), by simp [binOp, Op.intCmp, intLt_eq]; rw [Bool.eq_iff_iff]; simp, .b _⟩
  | gtr =>
    obtain ⟨hk, e1⟩ := same e
    clear e same
    subst hk
    have e := e1
    clear e1
    have e : gB (intLt b a) g = some r := e
    rw [gB_eq] at e
    exact ⟨_, e, .bool (intLt b a), by simp [binOp, Op.intCmp, intLt_eq], .b _⟩
  | geq =>
    obtain ⟨hk, e1⟩ := same e
    clear e same
    subst hk
    have e := e1
    clear e1
    have e : gB (Bool.not (intLt a b)) g = some r := e
    rw [gB_eq] at e
    exact ⟨_, e, .bool (Bool.not (intLt a b)), by simp [binOp, Op.intCmp, intLt_eq]; rw [Bool.eq_iff_iff]; simp, .b _⟩

end Go.AM
