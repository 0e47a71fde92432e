/- The place of a key in a dictionary: what (*store.dict).at returns. -/
import Derived.Test.YtghphioodlkcdaaGreatDoorProg
import Derived.WalkKit
import Derived.Shelf.SlicesQ.IndexFunc
import Derived.Lib.SliceRun
import Derived.LoopN
namespace Go.Proofs.YtghphioodlkcdaaGreatDoor
open Go Go.Proofs Go.Shelf Go.RowKit Go.Lib

/-- slices.IndexFunc at pairs is the shelf's. -/
def Tryz.lIdxPair_ren : Go.Shelf.Ren := ⟨fun | 6 => 84 | n => n, fun | 22 => 127 | 23 => 135 | 25 => 155 | n => n, fun n => n⟩
theorem Tryz.lIdxPair : SlLaysH0.n6 Tryz.prog Tryz.lIdxPair_ren := {
  mixed := by kernel_rfl
  f6 := ⟨Tryz.f84.name, by decide, Tryz.func84.trans (congrArg some (by kernel_rfl))⟩
  t0 := Tryz.underlying0, a0 := Tryz.isAgg0, z0 := Tryz.sizeOf0, v0 := Tryz.zeroValue0, t3 := Tryz.underlying3, a3 := Tryz.isAgg3, z3 := Tryz.sizeOf3, v3 := Tryz.zeroValue3
  t4 := Tryz.underlying4, a4 := Tryz.isAgg4, z4 := Tryz.sizeOf4, v4 := Tryz.zeroValue4, t22 := Tryz.underlying127, a22 := Tryz.isAgg127, z22 := Tryz.sizeOf127, v22 := Tryz.zeroValue127
  t25 := Tryz.underlying155, a25 := Tryz.isAgg155, z25 := Tryz.sizeOf155, v25 := Tryz.zeroValue155 }

/-- A pair: the key's parts, and the cells of what it stands for. -/
structure PairV where
  n0 : Int
  b1 : Bool
  n2 : Int
  n3 : Int
  s4 : ByteArray
  n5 : Int
  n6 : Int
  n7 : Int
  v8 : Value
  v9 : Value
  v10 : Value
  v11 : Value
  v12 : Value
  v13 : Value
  v14 : Value
  v15 : Value
instance : Inhabited PairV := ⟨⟨0, false, 0, 0, ⟨#[]⟩, 0, 0, 0, undef, undef, undef, undef, undef, undef, undef, undef⟩⟩

def PairV.key (x : PairV) : List Value := [.int .i64 x.n0, .bool x.b1, .int .i64 x.n2, .int .i64 x.n3, .string x.s4, .int .i64 x.n5, .int .i64 x.n6, .int .i64 x.n7]
def PairV.enc (x : PairV) : List Value := [.int .i64 x.n0, .bool x.b1, .int .i64 x.n2, .int .i64 x.n3, .string x.s4, .int .i64 x.n5, .int .i64 x.n6, .int .i64 x.n7, x.v8, x.v9, x.v10, x.v11, x.v12, x.v13, x.v14, x.v15]
def PairV.same (x y : PairV) : Bool := x.n0 == y.n0 && (x.b1 == y.b1 && (x.n2 == y.n2 && (x.n3 == y.n3 && (x.s4.toList == y.s4.toList && (x.n5 == y.n5 && (x.n6 == y.n6 && x.n7 == y.n7))))))

set_option maxRecDepth 100000 in
theorem pair_pred (y : PairV) (B : Nat) (w : World) (hB : B < w.heap.size) (hc : ∀ (i : Nat) (v : Value), y.key[i]? = some v → w.cell? ⟨B, i, none⟩ = some v) :
    PredBelow Tryz.prog 85 #[.pointer (some ⟨B, 0, none⟩)] (fun x : PairV => .agg x.enc.toArray) (fun x => x.same y) w := fun W x hb => by
  have c0 : W.cell? ⟨B, 0, none⟩ = some (.int .i64 y.n0) := (hb.cell (p := ⟨B, 0, none⟩) hB).trans (hc 0 _ rfl)
  have c1 : W.cell? ⟨B, 1, none⟩ = some (.bool y.b1) := (hb.cell (p := ⟨B, 1, none⟩) hB).trans (hc 1 _ rfl)
  have c2 : W.cell? ⟨B, 2, none⟩ = some (.int .i64 y.n2) := (hb.cell (p := ⟨B, 2, none⟩) hB).trans (hc 2 _ rfl)
  have c3 : W.cell? ⟨B, 3, none⟩ = some (.int .i64 y.n3) := (hb.cell (p := ⟨B, 3, none⟩) hB).trans (hc 3 _ rfl)
  have c4 : W.cell? ⟨B, 4, none⟩ = some (.string y.s4) := (hb.cell (p := ⟨B, 4, none⟩) hB).trans (hc 4 _ rfl)
  have c5 : W.cell? ⟨B, 5, none⟩ = some (.int .i64 y.n5) := (hb.cell (p := ⟨B, 5, none⟩) hB).trans (hc 5 _ rfl)
  have c6 : W.cell? ⟨B, 6, none⟩ = some (.int .i64 y.n6) := (hb.cell (p := ⟨B, 6, none⟩) hB).trans (hc 6 _ rfl)
  have c7 : W.cell? ⟨B, 7, none⟩ = some (.int .i64 y.n7) := (hb.cell (p := ⟨B, 7, none⟩) hB).trans (hc 7 _ rfl)
  have hBW : B < W.heap.size := Nat.lt_of_lt_of_le hB hb.size
  have hne : ¬ B = W.heap.size := by omega
  clear hc
  show Calls Tryz.prog 85 #[.agg x.enc.toArray, .pointer (some ⟨B, 0, none⟩)] W _
  unfold PairV.enc PairV.same
  go_enter Tryz.func85, Tryz.ntmps85
  go_wp2
  all_goals (go_ret; exact ⟨by simp [*], hb.alloc hb.size _⟩)

set_option maxRecDepth 100000 in
/-- The place of a key, or -1. -/
theorem at_pairs (y : PairV) (D off : Nat) (b o n c : Nat) (zs : List PairV) (w : World) (hn : zs.length = n) (hbig : n ≤ 9223372036854775807) (hb : b < w.heap.size)
    (hd : w.cell? ⟨D, off + 2, none⟩ = some (.slice (some ⟨b, o, none⟩) n c))
    (hc : ∀ j, j < zs.length → ∀ i v, (zs[j]!).enc[i]? = some v → w.cell? ⟨b, o + j * 16 + i, none⟩ = some v) :
    Calls Tryz.prog 70 #[.pointer (some ⟨D, off, none⟩), .agg y.key.toArray] w fun e w' => e = .returned (.int .i64 (Lib.idxBy (fun _ x => x.same y) zs default)) ∧ Below w.heap.size w w' := by
  have eg : ∀ args w, (callFunc 85 args).run Tryz.prog w = .ok (.enter 85 args) w := enters_of Tryz.func85 (by kernel_rfl) rfl
  have hD : D < w.heap.size := by
    rcases Nat.lt_or_ge D w.heap.size with h | h
    · exact h
    · simp [World.cell?, Array.getElem?_eq_none h] at hd
  have hcon := AnyQ.slices_IndexFunc Tryz.lIdxPair 16 (fun w => by kernel_rfl) (fun w => by kernel_rfl) PairV.enc (fun _ => rfl) (fun x => x.same y) 85 #[.pointer (some ⟨w.heap.size, 0, none⟩)] eg b o n c zs (w.alloc (.cells y.key.toArray 48))
    (pair_pred y w.heap.size _ (by simp) (fun i v hi => by
      have : i < y.key.length := (List.getElem?_eq_some_iff.1 hi).1
      simpa using hi)) (by omega) hbig (by simp; omega) (fun j hj i v hi => Lib.cell?_alloc_some _ (hc j hj i v hi))
  change Calls Tryz.prog 84 _ _ _ at hcon
  rw [List.take_of_length_le (by omega)] at hcon
  clear hc
  generalize Lib.idxBy (fun _ x => x.same y) zs default = r at hcon ⊢
  unfold PairV.key at hcon ⊢
  go_enter Tryz.func70, Tryz.ntmps70
  go_wp2_with (go_at_call 84; refine hcon.mono ?_; rintro e w' ⟨rfl, q⟩)
  go_ret
  exact ⟨rfl, ((Below.refl _ w).alloc (Nat.le_refl _) _).trans (q.mono (by simp))⟩

set_option maxRecDepth 100000 in
theorem at_nil (y : PairV) (D off : Nat) (c : Nat) (w : World) (hd : w.cell? ⟨D, off + 2, none⟩ = some (.slice none 0 c)) :
    Calls Tryz.prog 70 #[.pointer (some ⟨D, off, none⟩), .agg y.key.toArray] w fun e w' => e = .returned (.int .i64 (-1)) ∧ Below w.heap.size w w' := by
  have hD : D < w.heap.size := by
    rcases Nat.lt_or_ge D w.heap.size with h | h
    · exact h
    · simp [World.cell?, Array.getElem?_eq_none h] at hd
  unfold PairV.key
  go_enter Tryz.func70, Tryz.ntmps70
  go_wp2
  refine wp_loop_rounds 1 ?_
  rw [rounds_succ]
  go_wp2
  go_ret
  exact ⟨rfl, by first | exact ((Below.refl _ w).alloc (Nat.le_refl _) _) | (repeat refine Below.alloc ?_ (by simp) _); exact Below.refl _ _⟩
end Go.Proofs.YtghphioodlkcdaaGreatDoor
