/-
  The law arboretumlaw28.NodeNone, walked over what it calls.
-/
import Derived.Test.YtdopajkecfomdaaGreatDoorEvHyb
import Derived.Laws.ResultCell
namespace Go.Ev
open Go.Proofs Go.RowKit

theorem up_zero (b : Nat) (W : World) (h : W.cell? ⟨b, 2, none⟩ = some (.pointer none)) : Calls Tryz.prog 26 #[.pointer (some ⟨b, 0, none⟩)] W (fun e w' => e = .returned (.bool false) ∧ w' = W) := by
  go_enter Tryz.func26, Tryz.ntmps26
  go_wp2
  go_ret
  exact ⟨rfl, rfl⟩

theorem enter_zero (b : Nat) (W : World) (h : W.cell? ⟨b, 2, none⟩ = some (.pointer none)) : Calls Tryz.prog 60 #[.pointer (some ⟨b, 0, none⟩)] W (fun e w' => e = .returned (.bool false) ∧ w' = W) := by
  go_enter Tryz.func60, Tryz.ntmps60
  go_wp2_with (go_at_call 26; refine (up_zero _ _ h).mono ?_; rintro e w1 ⟨rfl, rfl⟩)
  go_ret
  exact ⟨rfl, rfl⟩

set_option maxHeartbeats 1000000 in
theorem change_zero (b : Nat) (W : World) (h : W.cell? ⟨b, 2, none⟩ = some (.pointer none)) : Calls Tryz.prog 18 #[.pointer (some ⟨b, 0, none⟩), .bool true, .int .i64 2] W (fun e w' => e = .returned (.tuple #[.slice none 0 0, .int .i64 14]) ∧ w' = W) := by
  go_enter Tryz.func18, Tryz.ntmps18
  go_wp2_with (go_at_call 60; refine (enter_zero _ _ h).mono ?_; rintro e w1 ⟨rfl, rfl⟩)
  go_ret2
  exact ⟨rfl, rfl⟩

set_option maxHeartbeats 1000000 in
theorem tick_zero (b : Nat) (W : World) (h : W.cell? ⟨b, 2, none⟩ = some (.pointer none)) : Calls Tryz.prog 22 #[.pointer (some ⟨b, 0, none⟩), .int .i64 0] W (fun e w' => e = .returned (.slice none 0 0) ∧ w' = W) := by
  go_enter Tryz.func22, Tryz.ntmps22
  go_wp2_with (go_at_call 60; refine (enter_zero _ _ h).mono ?_; rintro e w1 ⟨rfl, rfl⟩)
  go_ret
  exact ⟨rfl, rfl⟩

theorem cell_kept {W : World} {b i : Nat} {v : Value} (h : W.cell? ⟨b, i, none⟩ = some v) (o : Obj) : (W.alloc o).cell? ⟨b, i, none⟩ = some v := by
  have hb : b < W.heap.size := by
    rcases Nat.lt_or_ge b W.heap.size with h' | h'
    · exact h'
    · simp [World.cell?, Array.getElem?_eq_none h'] at h
  exact (World.cell?_alloc_past _ _ _ hb).trans h

set_option maxHeartbeats 1000000 in
theorem take_zero (b : Nat) (x y z : Value) (W : World) (h : W.cell? ⟨b, 2, none⟩ = some (.pointer none)) : Calls Tryz.prog 23 #[.pointer (some ⟨b, 0, none⟩), .agg #[x, y, z]] W (Gives0 (.slice none 0 0) W) := by
  have h' := cell_kept h (.cells #[x, y, z] 45)
  go_enter Tryz.func23, Tryz.ntmps23
  go_wp2_with (go_at_call 60; refine (enter_zero _ _ h').mono ?_; rintro e w1 ⟨rfl, rfl⟩)
  go_ret
  exact ⟨rfl, bel_alloc (Below.refl _ _) _⟩

set_option maxHeartbeats 1000000 in
theorem take_nil (hE : ∀ W, Calls Tryz.prog 60 #[.pointer none] W (Gives0 (.bool false) W)) (x y z : Value) (W : World) : Calls Tryz.prog 23 #[.pointer none, .agg #[x, y, z]] W (Gives0 (.slice none 0 0) W) := by
  go_enter Tryz.func23, Tryz.ntmps23
  go_wp2_with (go_at_call 60; refine (hE _).mono ?_; rintro e w1 ⟨rfl, hb1⟩)
  go_ret
  exact ⟨rfl, bel_then (bel_alloc (Below.refl _ _) _) hb1⟩

set_option maxHeartbeats 1000000 in
theorem see_zero (b : Nat) (f : Value) (W : World) (h : W.cell? ⟨b, 2, none⟩ = some (.pointer none)) : Calls Tryz.prog 68 #[.pointer (some ⟨b, 0, none⟩), f] W (fun e w' => e = .returned (.int .i64 14) ∧ w' = W) := by
  go_enter Tryz.func68, Tryz.ntmps68
  go_wp2_with (go_at_call 26; refine (up_zero _ _ h).mono ?_; rintro e w1 ⟨rfl, rfl⟩)
  go_ret
  exact ⟨rfl, rfl⟩

set_option maxHeartbeats 1000000 in
theorem all_zero (b : Nat) (W : World) (h : W.cell? ⟨b, 2, none⟩ = some (.pointer none)) : Calls Tryz.prog 20 #[.pointer (some ⟨b, 0, none⟩)] W (Gives0 (.tuple #[.slice none 0 0, .int .i64 14]) W) := by
  have h' := cell_kept h (.cells #[.slice none 0 0] 66)
  go_enter Tryz.func20, Tryz.ntmps20
  go_wp2_with (go_at_call 68; refine (see_zero _ _ _ h').mono ?_; rintro e w1 ⟨rfl, rfl⟩)
  have hr : (results Tryz.f20 #[.pointer (some ⟨b, 0, none⟩), undef, .pointer (some ⟨W.heap.size, 0, none⟩), .int .i64 14, .pointer (some ⟨b, 0, none⟩), .func (.func 71) #[] #[.pointer (some ⟨W.heap.size, 0, none⟩)], .int .i64 14, .slice none 0 0, .int .i64 14]).run Tryz.prog (W.alloc (.cells #[.slice none 0 0] 66)) = .ok (.tuple #[.slice none 0 0, .int .i64 14]) (W.alloc (.cells #[.slice none 0 0] 66)) := by
    rw [results_cell_tmp rfl]
    have hc := World.cell?_alloc_at (w := W) #[.slice none 0 0] 66 W.heap.size 0 rfl
    simp [asAddr]
    go_simp
  refine bodyPost_ret hr rfl ?_
  exact ⟨rfl, bel_alloc (Below.refl _ _) _⟩

set_option maxHeartbeats 1000000 in
theorem open_nil (hD : ∀ W, Calls Tryz.prog 50 #[.pointer none] W (Gives0 (.tuple #[.pointer none, .int .i64 1]) W)) (x : Value) (W : World) : Calls Tryz.prog 17 #[.int .i64 1, .pointer none, x] W (Gives0 (.tuple #[.pointer none, .int .i64 1]) W) := by
  go_enter Tryz.func17, Tryz.ntmps17
  go_wp2_with (go_at_call 50; refine (hD _).mono ?_; rintro e w1 ⟨rfl, hb1⟩)
  go_ret2
  exact ⟨rfl, bel_then (bel_alloc (Below.refl _ _) _) hb1⟩
/-- What the law calls at a nil node, and alive. -/
structure NilNode : Prop where
  alive : ∀ W, Calls Tryz.prog 16 #[] W (TrueB W)
  opn : ∀ W, Calls Tryz.prog 50 #[.pointer none] W (Gives0 (.tuple #[.pointer none, .int .i64 1]) W)
  change : ∀ W, Calls Tryz.prog 18 #[.pointer none, .bool true, .int .i64 2] W (Gives0 (.tuple #[.slice none 0 0, .int .i64 14]) W)
  get : ∀ W, Calls Tryz.prog 19 #[.pointer none, .string ⟨#[107]⟩] W (Gives0 (.tuple #[.agg #[.int .i64 0, .string ⟨#[]⟩, .int .i64 0], .int .i64 14]) W)
  waiting : ∀ W, Calls Tryz.prog 21 #[.pointer none] W (Gives0 (.tuple #[.int .i64 0, .int .i64 0]) W)
  tick : ∀ W, Calls Tryz.prog 22 #[.pointer none, .int .i64 0] W (Gives0 (.slice none 0 0) W)
  enter : ∀ W, Calls Tryz.prog 60 #[.pointer none] W (Gives0 (.bool false) W)
  applied : ∀ W, Calls Tryz.prog 24 #[.pointer none] W (Gives0 (.int .i64 0) W)
  txn : ∀ W, Calls Tryz.prog 25 #[.pointer none] W (Gives0 (.int .i64 0) W)
  up : ∀ W, Calls Tryz.prog 26 #[.pointer none] W (Gives0 (.bool false) W)

/-- What is kept from world to world: the packet's cells, and that the zero node has no core. -/
structure Keeps (w : World) (x y z : Value) (W : World) : Prop where
  below : Below w.heap.size w W
  lt : w.heap.size + 1 < W.heap.size
  c0 : W.cell? ⟨w.heap.size, 0, none⟩ = some x
  c1 : W.cell? ⟨w.heap.size, 1, none⟩ = some y
  c2 : W.cell? ⟨w.heap.size, 2, none⟩ = some z
  zr : W.cell? ⟨w.heap.size + 1, 2, none⟩ = some (.pointer none)

theorem Keeps.then {w W W' : World} {x y z : Value} (k : Keeps w x y z W) (h : Below W.heap.size W W') : Keeps w x y z W' :=
  ⟨bel_then k.below h, Nat.lt_of_lt_of_le k.lt h.size, ((bcell h).1 _ _ (by have := k.lt; omega)).trans k.c0, ((bcell h).1 _ _ (by have := k.lt; omega)).trans k.c1, ((bcell h).1 _ _ (by have := k.lt; omega)).trans k.c2, ((bcell h).1 _ _ k.lt).trans k.zr⟩

theorem Keeps.alloc {w W : World} {x y z : Value} (k : Keeps w x y z W) (o : Obj) : Keeps w x y z (W.alloc o) := k.then ((Below.refl _ _).alloc (Nat.le_refl _) o)
theorem Keeps.drew {w W : World} {x y z : Value} (k : Keeps w x y z W) : Keeps w x y z W.drew := ⟨k.below.drew, k.lt, k.c0, k.c1, k.c2, k.zr⟩
end Go.Ev

namespace Go.Ev
open Go.Proofs Go.RowKit

abbrev zeroNode : Array Value := #[.int .i64 0, .pointer none, .pointer none, .bool false, .int .i64 0, .slice none 0 0, .map none, .pointer none, .int .i64 0, .int .i64 0, .map none, .pointer none, .chan none]

theorem keeps_start (w : World) (x y z : Value) : Keeps w x y z ((w.alloc (.cells #[x, y, z] 45)).alloc (.cells zeroNode 56)) where
  below := bel_alloc (bel_alloc (Below.refl _ _) _) _
  lt := by simp
  c0 := (World.cell?_alloc_past _ _ _ (by simp)).trans (World.cell?_alloc_at _ _ _ 0 rfl)
  c1 := (World.cell?_alloc_past _ _ _ (by simp)).trans (World.cell?_alloc_at _ _ _ 1 rfl)
  c2 := (World.cell?_alloc_past _ _ _ (by simp)).trans (World.cell?_alloc_at _ _ _ 2 rfl)
  zr := World.cell?_alloc_at _ _ _ 2 (by simp)

set_option maxHeartbeats 4000000 in
set_option maxRecDepth 100000 in
theorem node_walk (hN : NilNode) (f t : Int) (data : ByteArray) (w : World) :
    Calls Tryz.prog 4 #[.agg #[.int .i64 f, .int .i64 t, .string data]] w (TrueB w) := by
  have hA := bel_alloc (Below.refl w.heap.size w) (.cells #[.int .i64 f, .int .i64 t, .string data] 45)
  have k0 := keeps_start w (.int .i64 f) (.int .i64 t) (.string data)
  go_enter Tryz.func4, Tryz.ntmps4
  go_wp2_with (first
    | (go_at_call 21; refine (hN.waiting _).mono ?_; rintro e w6 ⟨rfl, hb6⟩; have k6 := k5.then hb6)
    | (go_at_call 20; refine (all_zero _ _ (k4.alloc _).zr).mono ?_; rintro e w5 ⟨rfl, hb5⟩; have k5 := (k4.alloc _).then hb5)
    | (go_at_call 19; refine (hN.get _).mono ?_; rintro e w4 ⟨rfl, hb4⟩; have k4 := k2.then hb4)
    | (go_at_call 18; refine (change_zero _ _ k2.zr).mono ?_; rintro e w3 ⟨rfl, rfl⟩)
    | (go_at_call 18; refine (hN.change _).mono ?_; rintro e w2 ⟨rfl, hb2⟩; have k2 := k1.then hb2)
    | (go_at_call 17; refine (open_nil hN.opn _ _).mono ?_; rintro e w1 ⟨rfl, hb1⟩; have k1 := (k0.alloc _).then hb1)
    | (go_at_call 16; refine (hN.alive _).mono ?_; rintro e w0 ⟨rfl, hb0⟩))
  · go_ret
    exact ⟨rfl, bel_then hA hb0⟩
  · have k := k6.drew
    simp only [List.append_eq, List.cons_append, List.nil_append]
    go_region_held3 (fun w' => w'.cell? ⟨w.heap.size, 0, none⟩ = some (.int .i64 f) ∧ w'.cell? ⟨w.heap.size, 1, none⟩ = some (.int .i64 t) ∧ w'.cell? ⟨w.heap.size, 2, none⟩ = some (.string data))
      (first | exact ⟨a7.c0, a7.c1, a7.c2⟩ | exact ⟨a6.c0, a6.c1, a6.c2⟩ | exact ⟨a5.c0, a5.c1, a5.c2⟩ | exact ⟨a4.c0, a4.c1, a4.c2⟩ | exact ⟨a3.c0, a3.c1, a3.c2⟩ | exact ⟨a1.c0, a1.c1, a1.c2⟩ | exact ⟨a0.c0, a0.c1, a0.c2⟩ | exact ⟨k.c0, k.c1, k.c2⟩ | exact ⟨k6.c0, k6.c1, k6.c2⟩)
      (first
        | (go_at_call 26; refine (up_zero _ _ a7.zr).mono ?_; rintro e x8 ⟨rfl, rfl⟩)
        | (go_at_call 26; refine (hN.up _).mono ?_; rintro e x7 ⟨rfl, hc7⟩; have a7 := a6.then hc7)
        | (go_at_call 25; refine (hN.txn _).mono ?_; rintro e x6 ⟨rfl, hc6⟩; have a6 := a5.then hc6)
        | (go_at_call 24; refine (hN.applied _).mono ?_; rintro e x5 ⟨rfl, hc5⟩; have a5 := a4.then hc5)
        | (go_at_call 23; refine (take_zero _ _ _ _ _ a3.zr).mono ?_; rintro e x4 ⟨rfl, hc4⟩; have a4 := a3.then hc4)
        | (go_at_call 23; refine (take_nil hN.enter _ _ _ _).mono ?_; rintro e x3 ⟨rfl, hc3⟩; have a3 := a1.then hc3)
        | (go_at_call 22; refine (tick_zero _ _ a1.zr).mono ?_; rintro e x2 ⟨rfl, rfl⟩)
        | (go_at_call 22; refine (hN.tick _).mono ?_; rintro e x1 ⟨rfl, hc1⟩; have a1 := a0.then hc1)
        | (go_at_call 16; refine (hN.alive _).mono ?_; rintro e x0 ⟨rfl, hc0⟩; have a0 := k.then hc0))
    all_goals go_wp2
    all_goals (go_ret; exact ⟨rfl, a7.below⟩)
end Go.Ev
