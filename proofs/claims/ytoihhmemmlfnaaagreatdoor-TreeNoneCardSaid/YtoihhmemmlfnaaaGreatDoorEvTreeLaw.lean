/-
  The law arboretumlaw11.TreeNone, walked: it answers true.
-/
import Derived.Test.YtoihhmemmlfnaaaGreatDoorEvTreeSt
import Derived.Test.YtoihhmemmlfnaaaGreatDoorEvMake
namespace Go.Ev
open Go.Proofs Go.RowKit Go.Proofs.YtoihhmemmlfnaaaGreatDoor

def pg (k n : Int) (b : List UInt8) : AV := .agg [.int .i64 k, .int .i64 n, .str b]
noncomputable def S6 (x : AV) : St := stA (F0.call 6 [.ptr 34 0, .int .i64 (.ofNat 3), .str [107]] (S5 x))
noncomputable def S7 (x : AV) : St := stA (F0.call 7 [.ptr 34 0, .int .i64 (.ofNat 3), .str [107], .str [118]] (S6 x))
noncomputable def S8 (x : AV) : St := stA (F0.call 10 [.ptr 34 0, .int .i64 (.ofNat 3)] (S7 x))

/-- What is told of such a page. -/
structure NoTree (x : AV) : Prop where
  get : valB (F0.call 6 [.ptr 34 0, .int .i64 (.ofNat 3), .str [107]] (S5 x)) (.tup [.str [], .int .i64 (.ofNat 15)]) = true
  put : valB (F0.call 7 [.ptr 34 0, .int .i64 (.ofNat 3), .str [107], .str [118]] (S6 x)) (.tup [.int .i64 (.ofNat 0), .int .i64 (.ofNat 15)]) = true
  height : valB (F0.call 10 [.ptr 34 0, .int .i64 (.ofNat 3)] (S7 x)) (.tup [.int .i64 (.ofNat 0), .int .i64 (.ofNat 15)]) = true
  drop : valB (F0.call 12 [.ptr 34 0, .int .i64 (.ofNat 3)] (S8 x)) (.int .i64 (.ofNat 15)) = true

theorem no_below (n : Nat) (m : Int) (b : List UInt8) : NoTree (pg (.negSucc n) m b) := ⟨by kernel_rfl, by kernel_rfl, by kernel_rfl, by kernel_rfl⟩
theorem no_zero (m : Int) (b : List UInt8) : NoTree (pg (.ofNat 0) m b) := ⟨by kernel_rfl, by kernel_rfl, by kernel_rfl, by kernel_rfl⟩
theorem no_one (m : Int) (b : List UInt8) : NoTree (pg (.ofNat 1) m b) := ⟨by kernel_rfl, by kernel_rfl, by kernel_rfl, by kernel_rfl⟩
theorem no_more (n : Nat) (m : Int) (b : List UInt8) : NoTree (pg (.ofNat (n + 4)) m b) := ⟨by kernel_rfl, by kernel_rfl, by kernel_rfl, by kernel_rfl⟩

theorem no_any {k : Int} (h2 : k ≠ 2) (h3 : k ≠ 3) (m : Int) (b : List UInt8) : NoTree (pg k m b) := by
  match k, h2, h3 with
  | .negSucc n, _, _ => exact no_below n m b
  | .ofNat 0, _, _ => exact no_zero m b
  | .ofNat 1, _, _ => exact no_one m b
  | .ofNat 2, h2, _ => exact absurd rfl h2
  | .ofNat 3, _, h3 => exact absurd rfl h3
  | .ofNat (n + 4), _, _ => exact no_more n m b
end Go.Ev

namespace Go.Ev
open Go.Proofs Go.RowKit Go.Proofs.YtoihhmemmlfnaaaGreatDoor

theorem begin_run : F1.call 13 [.int .i64 (.ofNat 30)] ⟨.nil, 0⟩ = some (.tup [.ptr 0 0, .ptr 27 0, .ptr 34 0, .int .i64 (.ofNat 2), .bool true], S1) := by kernel_rfl

theorem begin_any (w : World) : Calls Tryz.prog 13 #[.int .i64 30] w fun e w' => ∃ p0 p1 q, e = .returned (.tuple #[.pointer p0, .pointer p1, .pointer (some ⟨q, 0, none⟩), .int .i64 2, .bool true]) ∧ At34 w (fun i => w.heap[i]?) q S1 w' := by
  refine (ev_call hS1 begin_run (good_frame w) (args := [.int .i64 (.ofNat 30)]) ⟨trivial, trivial⟩).mono ?_
  rintro e w' ⟨σ, D, rfl, g, x, ho⟩
  simp only [On, OnL] at ho
  exact ⟨some ⟨(σ 0).b, 0, none⟩, some ⟨(σ 27).b, 0, none⟩, (σ 34).b, by simp [conc, concL], σ, D, g, rfl, ho.2.2.1⟩

section
variable {B : World} {Fm : Nat → Option Obj} {q : Nat} {w : World} {x : AV}
theorem at_get (h : NoTree x) (a : At34 B Fm q (S5 x) w) : Calls Tryz.prog 6 #[.pointer (some ⟨q, 0, none⟩), .int .i64 3, .string ⟨#[107]⟩] w fun e w' => e = .returned (.tuple #[.string ⟨#[]⟩, .int .i64 15]) ∧ At34 B Fm q (S6 x) w' := by
  have h := at_call h.get (hr := ⟨trivial, trivial, trivial⟩) (hv := ⟨trivial, trivial, trivial⟩) a; exact h
theorem at_put (h : NoTree x) (a : At34 B Fm q (S6 x) w) : Calls Tryz.prog 7 #[.pointer (some ⟨q, 0, none⟩), .int .i64 3, .string ⟨#[107]⟩, .string ⟨#[118]⟩] w fun e w' => e = .returned (.tuple #[.int .i64 0, .int .i64 15]) ∧ At34 B Fm q (S7 x) w' := by
  have h := at_call h.put (hr := ⟨trivial, trivial, trivial, trivial⟩) (hv := ⟨trivial, trivial, trivial⟩) a; exact h
theorem at_height (h : NoTree x) (a : At34 B Fm q (S7 x) w) : Calls Tryz.prog 10 #[.pointer (some ⟨q, 0, none⟩), .int .i64 3] w fun e w' => e = .returned (.tuple #[.int .i64 0, .int .i64 15]) ∧ At34 B Fm q (S8 x) w' := by
  have h := at_call h.height (hr := ⟨trivial, trivial⟩) (hv := ⟨trivial, trivial, trivial⟩) a; exact h
theorem at_drop (h : NoTree x) (a : At34 B Fm q (S8 x) w) : Calls Tryz.prog 12 #[.pointer (some ⟨q, 0, none⟩), .int .i64 3] w fun e w' => e = .returned (.int .i64 15) ∧ ∃ s, At34 B Fm q s w' := by
  have h := at_call h.drop (hr := ⟨trivial, trivial⟩) (hv := trivial) a
  exact h.mono fun e w' ⟨h1, h2⟩ => ⟨h1, _, h2⟩
end

/-- The calls of the law at a nil pager, and alive. -/
structure NilTree : Prop where
  alive : ∀ W, Calls Tryz.prog 4 #[] W (TrueB W)
  new : ∀ W, Calls Tryz.prog 5 #[.pointer none] W (Gives0 (.tuple #[.int .i64 0, .int .i64 1]) W)
  get : ∀ W, Calls Tryz.prog 6 #[.pointer none, .int .i64 2, .string ⟨#[107]⟩] W (Gives0 (.tuple #[.string ⟨#[]⟩, .int .i64 1]) W)
  put : ∀ W, Calls Tryz.prog 7 #[.pointer none, .int .i64 2, .string ⟨#[107]⟩, .string ⟨#[118]⟩] W (Gives0 (.tuple #[.int .i64 0, .int .i64 1]) W)
  delete : ∀ W, Calls Tryz.prog 8 #[.pointer none, .int .i64 2, .string ⟨#[107]⟩] W (Gives0 (.tuple #[.int .i64 0, .int .i64 1]) W)
  pages : ∀ W, Calls Tryz.prog 9 #[.pointer none, .int .i64 2] W (Gives0 (.tuple #[.slice none 0 0, .int .i64 1]) W)
  height : ∀ W, Calls Tryz.prog 10 #[.pointer none, .int .i64 2] W (Gives0 (.tuple #[.int .i64 0, .int .i64 1]) W)
  count : ∀ W, Calls Tryz.prog 11 #[.pointer none, .int .i64 2] W (Gives0 (.tuple #[.int .i64 0, .int .i64 1]) W)
  drop : ∀ W, Calls Tryz.prog 12 #[.pointer none, .int .i64 2] W (Gives0 (.int .i64 1) W)

theorem nilTree : NilTree where
  alive := closed_true hS1 (by kernel_rfl)
  new W := closed_val hS0 (args := [.nilp]) (v := .tup [.int .i64 (.ofNat 0), .int .i64 (.ofNat 1)]) (by kernel_rfl) ⟨trivial, trivial⟩ ⟨trivial, trivial, trivial⟩ W
  get W := closed_val hS0 (args := [.nilp, .int .i64 (.ofNat 2), .str [107]]) (v := .tup [.str [], .int .i64 (.ofNat 1)]) (by kernel_rfl) ⟨trivial, trivial, trivial, trivial⟩ ⟨trivial, trivial, trivial⟩ W
  put W := closed_val hS0 (args := [.nilp, .int .i64 (.ofNat 2), .str [107], .str [118]]) (v := .tup [.int .i64 (.ofNat 0), .int .i64 (.ofNat 1)]) (by kernel_rfl) ⟨trivial, trivial, trivial, trivial, trivial⟩ ⟨trivial, trivial, trivial⟩ W
  delete W := closed_val hS0 (args := [.nilp, .int .i64 (.ofNat 2), .str [107]]) (v := .tup [.int .i64 (.ofNat 0), .int .i64 (.ofNat 1)]) (by kernel_rfl) ⟨trivial, trivial, trivial, trivial⟩ ⟨trivial, trivial, trivial⟩ W
  pages W := closed_val hS0 (args := [.nilp, .int .i64 (.ofNat 2)]) (v := .tup [.nils, .int .i64 (.ofNat 1)]) (by kernel_rfl) ⟨trivial, trivial, trivial⟩ ⟨trivial, trivial, trivial⟩ W
  height W := closed_val hS0 (args := [.nilp, .int .i64 (.ofNat 2)]) (v := .tup [.int .i64 (.ofNat 0), .int .i64 (.ofNat 1)]) (by kernel_rfl) ⟨trivial, trivial, trivial⟩ ⟨trivial, trivial, trivial⟩ W
  count W := closed_val hS0 (args := [.nilp, .int .i64 (.ofNat 2)]) (v := .tup [.int .i64 (.ofNat 0), .int .i64 (.ofNat 1)]) (by kernel_rfl) ⟨trivial, trivial, trivial⟩ ⟨trivial, trivial, trivial⟩ W
  drop W := closed_val hS0 (args := [.nilp, .int .i64 (.ofNat 2)]) (v := .int .i64 (.ofNat 1)) (by kernel_rfl) ⟨trivial, trivial, trivial⟩ trivial W
end Go.Ev

namespace Go.Ev
open Go.Proofs Go.RowKit Go.Proofs.YtoihhmemmlfnaaaGreatDoor

theorem box_cells {W : World} {n : Nat} {x y z : Value} {T : TypeId} (h : W.heap[n]? = some (.cells #[x, y, z] T)) : W.cell? ⟨n, 0, none⟩ = some x ∧ W.cell? ⟨n, 1, none⟩ = some y ∧ W.cell? ⟨n, 2, none⟩ = some z :=
  ⟨by rw [Lib.cell_of_heap h]; rfl, by rw [Lib.cell_of_heap h]; rfl, by rw [Lib.cell_of_heap h]; rfl⟩

set_option maxHeartbeats 4000000 in
set_option maxRecDepth 100000 in
theorem tree_walk (key value : ByteArray) (kind next : Int) (body : ByteArray) (w : World) :
    Calls Tryz.prog 3 #[.string key, .string value, .agg #[.int .i64 kind, .int .i64 next, .string body]] w (TrueB w) := by
  have hX : (w.alloc (.cells #[.int .i64 kind, .int .i64 next, .string body] 23)).heap[w.heap.size]? = some (.cells #[.int .i64 kind, .int .i64 next, .string body] 23) := by
    show (w.heap.push _)[w.heap.size]? = _
    simp
  have hA := bel_alloc (Below.refl w.heap.size w) (.cells #[.int .i64 kind, .int .i64 next, .string body] 23)
  have hS : w.heap.size < (w.alloc (.cells #[.int .i64 kind, .int .i64 next, .string body] 23)).heap.size := by simp
  go_enter Tryz.func3, Tryz.ntmps3
  go_wp2_with (first
    | (go_at_call 12; refine (at_drop hn a15).mono ?_; rintro e w16 ⟨rfl, s16, a16⟩)
    | (go_at_call 4; refine (nilTree.alive _).mono ?_; rintro e w15 ⟨rfl, hb15⟩; have a15 := a14.grow hb15)
    | (go_at_call 10; refine (at_height hn a13).mono ?_; rintro e w14 ⟨rfl, a14⟩)
    | (go_at_call 6; obtain ⟨rfl, _, a11⟩ := hm.resolve_left (fun h => h.1 ‹k = 0›); have hkk := ‹(kind == 2) = false ∧ (kind == 3) = false›; have hn : NoTree (pg kind next body.data.toList) := no_any (by simpa using hkk.1) (by simpa using hkk.2) _ _; refine (at_get hn a11).mono ?_; rintro e w12 ⟨rfl, a12⟩)
    | (go_at_call 7; refine (at_put hn a12).mono ?_; rintro e w13 ⟨rfl, a13⟩)
    | (go_at_call 14; refine (make_any a9 kind next body).mono ?_; rintro e w10 ⟨i, k, rfl, hm⟩; have hk10 : Below w8.heap.size w8 w10 := (by rcases hm with ⟨_, s, a⟩ | ⟨_, _, a⟩ <;> exact a.kept); obtain ⟨hy0, hy1, hy2⟩ := box_cells ((hk10.block _ hS).trans hX))
    | (go_at_call 13; refine (begin_any _).mono ?_; rintro e w9 ⟨p0, p1, q, rfl, a9⟩; have hk9 := a9.kept; have hz9 := hk9.size; obtain ⟨hx0, hx1, hx2⟩ := box_cells ((hk9.block _ hS).trans hX))
    | (go_at_call 12; refine (nilTree.drop _).mono ?_; rintro e w8 ⟨rfl, hb8⟩; replace hX := (hb8.block _ hS).trans hX; replace hS := Nat.lt_of_lt_of_le hS hb8.size; replace hA := bel_then hA hb8)
    | (go_at_call 11; refine (nilTree.count _).mono ?_; rintro e w7 ⟨rfl, hb7⟩; replace hX := (hb7.block _ hS).trans hX; replace hS := Nat.lt_of_lt_of_le hS hb7.size; replace hA := bel_then hA hb7)
    | (go_at_call 10; refine (nilTree.height _).mono ?_; rintro e w6 ⟨rfl, hb6⟩; replace hX := (hb6.block _ hS).trans hX; replace hS := Nat.lt_of_lt_of_le hS hb6.size; replace hA := bel_then hA hb6)
    | (go_at_call 9; refine (nilTree.pages _).mono ?_; rintro e w5 ⟨rfl, hb5⟩; replace hX := (hb5.block _ hS).trans hX; replace hS := Nat.lt_of_lt_of_le hS hb5.size; replace hA := bel_then hA hb5)
    | (go_at_call 8; refine (nilTree.delete _).mono ?_; rintro e w4 ⟨rfl, hb4⟩; replace hX := (hb4.block _ hS).trans hX; replace hS := Nat.lt_of_lt_of_le hS hb4.size; replace hA := bel_then hA hb4)
    | (go_at_call 7; refine (nilTree.put _).mono ?_; rintro e w3 ⟨rfl, hb3⟩; replace hX := (hb3.block _ hS).trans hX; replace hS := Nat.lt_of_lt_of_le hS hb3.size; replace hA := bel_then hA hb3)
    | (go_at_call 6; refine (nilTree.get _).mono ?_; rintro e w2 ⟨rfl, hb2⟩; replace hX := (hb2.block _ hS).trans hX; replace hS := Nat.lt_of_lt_of_le hS hb2.size; replace hA := bel_then hA hb2)
    | (go_at_call 5; refine (nilTree.new _).mono ?_; rintro e w1 ⟨rfl, hb1⟩; replace hX := (hb1.block _ hS).trans hX; replace hS := Nat.lt_of_lt_of_le hS hb1.size; replace hA := bel_then hA hb1)
    | (go_at_call 4; refine (nilTree.alive _).mono ?_; rintro e w0 ⟨rfl, hb0⟩))
  all_goals go_ret
  all_goals first
    | exact ⟨rfl, bel_then hA a16.kept⟩
    | exact ⟨rfl, bel_then (bel_then hA hk10) hb0⟩
    | exact ⟨rfl, bel_then hA hb0⟩
end Go.Ev
