/- THE ABSTRACT MACHINE, part 14: append and copy. -/
import Derived.Test.YtghphioodlkcdaaGreatDoorAm13
namespace Go.AM
open Go

section
variable {P : Program} {μ : Mu}

theorem charsV_rel (l : List UInt8) : VL μ (charsV l) (l.map fun c => Value.int .u8 c.toNat) := by
  unfold charsV
  rw [mapL_eq]
  induction l with
  | nil => exact .nil
  | cons c r ih => exact .cons (.i _ _) ih

theorem lenV_sim {x : V} {x' : Value} {n : Nat} (hx : VR μ x x') (e : lenV x = some n) (w : World) : (Builtin.lenOf x').run P w = .ok n w := by
  cases hx <;> first
    | (cases e; done)
    | (injection e with e; subst e; rfl)
    | (injection e with e; rw [lenL_eq] at e; subst e; rfl)

variable {h : Heap} {nx : Nat}

theorem firstC_sim {w : World} (g : G μ h nx w) {x : V} {x' : Value} {s n : Nat} {l : List V} (hx : VR μ x x') (e : firstC h s n x = some l) :
    ∃ l', (∀ w1 : World, w1.heap = w.heap → (Builtin.firstCells s n x').run P w1 = .ok l'.toArray w1) ∧ VL μ l l' := by
  have ld : ∀ {b B N off c : Nat} {len : Nat}, μ b = some (B, N) → ldK h b off (Nat.mul n s) some = some l → ∃ l', (∀ w1 : World, w1.heap = w.heap → (Builtin.firstCells s n (.slice (some ⟨B, off, none⟩) len c)).run P w1 = .ok l'.toArray w1) ∧ VL μ l l' := by
    intro b B N off c len hm e
    unfold ldK at e
    split at e
    · rename_i cc m ro hb
      obtain ⟨hle, e⟩ := ifB_none e
      have hle := ble_true.1 hle
      rw [rdK_eq] at e
      injection e with e
      obtain ⟨l', h1, h2, h3⟩ := load_cells (P := P) g hb hm (show off + n * s ≤ m from hle)
      exact ⟨l', fun w1 hw1 => h1 w1 hw1, by rw [← e]; exact h2⟩
    · cases e
  cases hx with
  | sl0 a c =>
    have e : some [] = some l := e
    injection e with e; subst e
    exact ⟨[], fun w1 _ => by simp [Builtin.firstCells], .nil⟩
  | sl o len c hm hc => exact ld hm e
  | slO o len s' c hm _ _ _ => exact ld hm e
  | s q =>
    have e : some (charsV (takeL q n)) = some l := e
    injection e with e; subst e
    rw [takeL_eq]
    refine ⟨_, fun w1 _ => ?_, charsV_rel _⟩
    simp only [Builtin.firstCells, Sem.run_pure]
    congr 1
    apply Array.ext'
    simp
  | _ => cases e

/-- Zeros that are appended. -/
theorem zeroCells_rel {z : List V} {zv : Value} (hz : VL μ z zv.cells.toList) (n : Nat) : VL μ (repL z n) (Builtin.zeroCells zv.cells n).toList := by
  have : (Builtin.zeroCells zv.cells n).toList = (List.replicate n zv.cells.toList).flatten := by
    rw [← zeros_eq]
    simp only [Builtin.zeroCells, Array.toList_map, Array.toList_range]
    rfl
  rw [this]
  exact repL_rel hz n
end

/-! The run of append, once what is appended is known. -/
section
variable {P : Program} {w : World} {ats : Array TypeId} {st elem ty : TypeId} {e : TypeInfo} {zv : Value} {x : Value} {n : Nat} {news : List Value}

/-- Is what is appended no number of zeros? -/
def NoZeros (P : Program) (ats : Array TypeId) : Prop := ats[1]? = none ∨ ∃ xt d, ats[1]? = some xt ∧ P.underlying xt = some d ∧ isIntD d = false

/-- Is it one? -/
def Zeros (P : Program) (ats : Array TypeId) : Prop := ∃ xt k, ats[1]? = some xt ∧ P.underlying xt = some (.int k)

theorem app_room (h0 : ats[0]? = some st) (hu : P.underlying st = some (.slice elem)) (hi : P.info? elem = some e) {base : Option Addr} {s cap : Nat} (hroom : s + n ≤ cap)
    (hz : NoZeros P ats) (hx : (Builtin.lenOf x).run P w = .ok n w) (hf : (Builtin.firstCells e.size n x).run P w = .ok news.toArray w) :
    (Builtin.append_ ats ty #[.slice base s cap, x]).run P w = (match base with | some a => ((storeCells (a.add (s * e.size)) news).run P w).andThen fun _ w' => .ok (.slice base (s + n) cap) w' | none => .ok (.slice base (s + n) cap) w) := by
  rcases hz with h1 | ⟨xt, d, h1, h2, h3⟩
  · cases base with
    | none => simp [Builtin.append_, h0, h1, run_und hu, run_size hi, hx, hroom, hf]
    | some a => simp [Builtin.append_, h0, h1, run_und hu, run_size hi, hx, hroom, hf]
  · cases base with
    | none =>
      simp [Builtin.append_, h0, h1, run_und hu, run_und h2, run_size hi]
      cases d <;> first | (cases h3; done) | (simp only [Bool.false_eq_true, if_false, if_true, hx, Result.andThen_ok, hroom, hf]; done)
    | some a =>
      simp [Builtin.append_, h0, h1, run_und hu, run_und h2, run_size hi]
      cases d <;> first | (cases h3; done) | (simp only [Bool.false_eq_true, if_false, if_true, hx, Result.andThen_ok, hroom, hf]; done)

theorem app_grow (h0 : ats[0]? = some st) (hu : P.underlying st = some (.slice elem)) (hi : P.info? elem = some e) (hzv : (e.zero = some zv)) {base : Option Addr} {s cap : Nat} {olds : List Value} (hroom : ¬ s + n ≤ cap) (hb : e.bytes ≠ 0)
    (hbig : ¬ (Builtin.nextslicecap (s + n) cap * e.bytes > 2 ^ 48))
    (hz : NoZeros P ats) (hx : (Builtin.lenOf x).run P w = .ok n w) (hf : (Builtin.firstCells e.size n x).run P w.drew = .ok news.toArray w.drew)
    (ho : (Builtin.firstCells e.size s (.slice base s cap)).run P w.drew = .ok olds.toArray w.drew) :
    ∃ c, s + n ≤ c ∧ (Builtin.append_ ats ty #[.slice base s cap, x]).run P w = .ok (.slice (some ⟨w.heap.size, 0, none⟩) (s + n) c) (w.drew.alloc (.cells (olds.toArray ++ (news.toArray ++ Builtin.zeroCells zv.cells (c - (s + n)))) elem (0, 0))) := by
  have hzr : ∀ w1 : World, (zeroValue elem).run P w1 = .ok zv w1 := fun w1 => by simp [zeroValue, run_info hi, hzv]
  refine ⟨(Question.appendCap (s + n) cap elem).cut (w.tape w.drawn (.appendCap (s + n) cap elem)), by simp [Question.cut], ?_⟩
  have hforced : (Question.appendCap (s + n) cap elem).forced = false := rfl
  rcases hz with h1 | ⟨xt, d, h1, h2, h3⟩
  · simp [Builtin.append_, h0, h1, run_und hu, run_size hi, run_info hi, hx, hroom, hb, hbig, hforced, ho, hf, hzr, newRow]
  · simp [Builtin.append_, h0, h1, run_und hu, run_und h2, run_size hi]
    cases d <;> first | (cases h3; done) | (simp [hx, hroom, run_info hi, hb, hbig, hforced, ho, hf, hzr, newRow]; done)

/-- 'append(s, make([]T, n)...)': what is appended are zeros. -/
theorem app_room_z (h0 : ats[0]? = some st) (hu : P.underlying st = some (.slice elem)) (hi : P.info? elem = some e) (hzv : (e.zero = some zv)) (hzs : zv.cells.size = e.size) {base : Option Addr} {s cap : Nat} {k : IntKind} (hroom : s + n ≤ cap)
    (hz : Zeros P ats) (hn : n ≤ 9223372036854775807) (hnb : n * e.bytes ≤ 281474976710656) :
    (Builtin.append_ ats ty #[.slice base s cap, .int k (n : Int)]).run P w = (match base with | some a => ((storeCells (a.add (s * e.size)) (Builtin.zeroCells zv.cells n).toList).run P w).andThen fun _ w' => .ok (.slice base (s + n) cap) w' | none => .ok (.slice base (s + n) cap) w) := by
  have hzr : ∀ w1 : World, (zeroValue elem).run P w1 = .ok zv w1 := fun w1 => by simp [zeroValue, run_info hi, hzv]
  have hw : IntKind.i64.wrap (n : Int) = (n : Int) := wrap_nat .i64 n hn
  have hnb' : ¬ ((281474976710656 : Int) < (n : Int) * (e.bytes : Int)) := by
    have h1 : ((n * e.bytes : Nat) : Int) ≤ ((281474976710656 : Nat) : Int) := Int.ofNat_le.2 hnb
    rw [Int.natCast_mul] at h1
    omega
  have hneg : ¬ ((n : Int) < 0) := by omega
  obtain ⟨xt, k', h1, h2⟩ := hz
  by_cases h00 : n * e.size = 0
  · have hnil : Builtin.zeroCells zv.cells n = #[] := by
      apply Array.ext'
      simp [Builtin.zeroCells, hzs, h00]
    cases base with
    | none => simp [Builtin.append_, h0, h1, run_und hu, run_und h2, run_size hi, run_info hi, Go.asInt, asIntOf, hw, hneg, hnb', hroom, h00]
    | some a => simp [Builtin.append_, h0, h1, run_und hu, run_und h2, run_size hi, run_info hi, Go.asInt, asIntOf, hw, hneg, hnb', hroom, h00, hnil]
  · cases base with
    | none => simp [Builtin.append_, h0, h1, run_und hu, run_und h2, run_size hi, run_info hi, Go.asInt, asIntOf, hw, hneg, hnb', hroom, hzr]
    | some a => simp [Builtin.append_, h0, h1, run_und hu, run_und h2, run_size hi, run_info hi, Go.asInt, asIntOf, hw, hneg, hnb', hroom, h00, hzr]

theorem app_grow_z (h0 : ats[0]? = some st) (hu : P.underlying st = some (.slice elem)) (hi : P.info? elem = some e) (hzv : (e.zero = some zv)) (hzs : zv.cells.size = e.size) {base : Option Addr} {s cap : Nat} {k : IntKind} {olds : List Value} (hroom : ¬ s + n ≤ cap)
    (hsm : s + n ≤ 9223372036854775807) (hbig : ¬ (Builtin.nextslicecap (s + n) cap * e.bytes > 2 ^ 48)) (hz : Zeros P ats) (hnb : n * e.bytes ≤ 281474976710656)
    (ho : (Builtin.firstCells e.size s (.slice base s cap)).run P w.drew = .ok olds.toArray w.drew) :
    ∃ c, s + n ≤ c ∧ (Builtin.append_ ats ty #[.slice base s cap, .int k (n : Int)]).run P w = .ok (.slice (some ⟨w.heap.size, 0, none⟩) (s + n) c) (w.drew.alloc (.cells (olds.toArray ++ (Builtin.zeroCells zv.cells n ++ Builtin.zeroCells zv.cells (c - (s + n)))) elem (0, 0))) := by
  have hzr : ∀ w1 : World, (zeroValue elem).run P w1 = .ok zv w1 := fun w1 => by simp [zeroValue, run_info hi, hzv]
  have hw : IntKind.i64.wrap (n : Int) = (n : Int) := wrap_nat .i64 n (by show n ≤ 9223372036854775807; omega)
  have hnb' : ¬ ((281474976710656 : Int) < (n : Int) * (e.bytes : Int)) := by
    have h1 : ((n * e.bytes : Nat) : Int) ≤ ((281474976710656 : Nat) : Int) := Int.ofNat_le.2 hnb
    rw [Int.natCast_mul] at h1
    omega
  have hneg : ¬ ((n : Int) < 0) := by omega
  have hmax : IntKind.i64.max = 9223372036854775807 := by decide
  have hsm' : ¬ ((9223372036854775807 : Int) < (s : Int) + (n : Int)) := by omega
  obtain ⟨xt, k', h1, h2⟩ := hz
  have hforced : (Question.appendCap (s + n) cap elem).forced = false := rfl
  refine ⟨(Question.appendCap (s + n) cap elem).cut (w.tape w.drawn (.appendCap (s + n) cap elem)), by simp [Question.cut], ?_⟩
  by_cases h00 : n * e.size = 0
  · have hnil : Builtin.zeroCells zv.cells n = #[] := by
      apply Array.ext'
      simp [Builtin.zeroCells, hzs, h00]
    simp [Builtin.append_, h0, h1, run_und hu, run_und h2, run_size hi, run_info hi, Go.asInt, asIntOf, hw, hneg, hnb', hroom, hnil, hsm', hmax, hbig, hforced, ho, hzr, newRow]
  · simp [Builtin.append_, h0, h1, run_und hu, run_und h2, run_size hi, run_info hi, Go.asInt, asIntOf, hw, hneg, hnb', hroom, h00, hzr, hsm', hmax, hbig, hforced, ho, newRow]
end
end Go.AM
