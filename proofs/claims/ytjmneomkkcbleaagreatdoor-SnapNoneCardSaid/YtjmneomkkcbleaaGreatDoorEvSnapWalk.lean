/-
  The law arboretumlaw22.SnapNone, walked over what it calls.
-/
import Derived.Test.YtjmneomkkcbleaaGreatDoorEvRoom
namespace Go.Ev
open Go.Proofs Go.RowKit

theorem none_zero (b : Nat) (W : World) (h : W.cell? ⟨b, 0, none⟩ = some (.pointer none)) : Calls Tryz.prog 167 #[.pointer (some ⟨b, 0, none⟩)] W (fun e w' => e = .returned (.bool true) ∧ w' = W) := by
  go_enter Tryz.func167, Tryz.ntmps167
  go_wp2
  go_ret
  exact ⟨rfl, rfl⟩

theorem piece_zero (b : Nat) (W : World) (h : W.cell? ⟨b, 0, none⟩ = some (.pointer none)) : Calls Tryz.prog 56 #[.pointer (some ⟨b, 0, none⟩), .int .i64 0] W (fun e w' => e = .returned (.tuple #[.slice none 0 0, .bool false, .int .i64 1]) ∧ w' = W) := by
  go_enter Tryz.func56, Tryz.ntmps56
  go_wp2_with (go_at_call 167; refine (none_zero _ _ h).mono ?_; rintro e w1 ⟨rfl, rfl⟩)
  go_ret3
  exact ⟨rfl, rfl⟩

theorem close_zero (b : Nat) (W : World) (h : W.cell? ⟨b, 0, none⟩ = some (.pointer none)) : Calls Tryz.prog 57 #[.pointer (some ⟨b, 0, none⟩)] W (fun e w' => e = .returned (.tuple #[]) ∧ w' = W) := by
  go_enter Tryz.func57, Tryz.ntmps57
  go_wp2_with (go_at_call 167; refine (none_zero _ _ h).mono ?_; rintro e w1 ⟨rfl, rfl⟩)
  refine bodyPost_end (results_none rfl _ _ _) rfl ?_
  exact ⟨rfl, rfl⟩

set_option maxHeartbeats 4000000 in
theorem take_nil (cs : Array Value) (W : World) : Calls Tryz.prog 58 #[.pointer none, .agg cs] W (Gives0 (.tuple #[.int .i64 0, .bool false]) W) := by
  go_enter Tryz.func58, Tryz.ntmps58
  go_wp2
  go_ret2
  exact ⟨rfl, bel_alloc (Below.refl _ _) _⟩

theorem range_alloc (w : World) (cs : Array Value) (T : TypeId) : (w.alloc (.cells cs T)).rangeAt w.heap.size 0 cs.toList := by
  intro j v hj
  rw [World.cell?_alloc_at _ _ _ _ rfl, Nat.zero_add]
  simpa using hj
theorem range_below {W W' : World} {b : Nat} {cs : List Value} (h : W.rangeAt b 0 cs) (hb : Below W.heap.size W W') (hlt : b < W.heap.size) : W'.rangeAt b 0 cs :=
  fun j v hj => ((bcell hb).1 _ _ hlt).trans (h j v hj)
theorem range_past {W : World} {b : Nat} {cs : List Value} (h : W.rangeAt b 0 cs) (hlt : b < W.heap.size) (o : Obj) : (W.alloc o).rangeAt b 0 cs :=
  fun j v hj => (World.cell?_alloc_past _ _ _ hlt).trans (h j v hj)

/-- A row of that many cells. -/
def rowB0 (P : Program) (t : TypeId) (n : Nat) : Bool := (match P.underlying t with | some d => d.isRow | none => false) && ((P.info? t).map (·.size) == some n)
theorem load_at_row {P : Program} {w : World} {t : TypeId} {b : Nat} (vs : Array Value) (hB : rowB0 P t vs.size = true) (h : w.rangeAt b 0 vs.toList) : (Instr.loadAt t (.pointer (some ⟨b, 0, none⟩))).run P w = .ok (.agg vs) w := by
  unfold rowB0 at hB
  simp only [Bool.and_eq_true, beq_iff_eq] at hB
  obtain ⟨h1, h2⟩ := hB
  split at h1
  · rename_i d hd
    have := run_loadAt_mid w b 0 t vs.toList d h hd h1 (by simpa using h2)
    simpa using this
  · cases h1

set_option maxRecDepth 100000 in
set_option maxHeartbeats 1000000 in
theorem snap_walk (hAl : ∀ W, Calls Tryz.prog 55 #[] W (TrueB W))
    (hPiece : ∀ W, Calls Tryz.prog 56 #[.pointer none, .int .i64 0] W (Gives0 (.tuple #[.slice none 0 0, .bool false, .int .i64 1]) W))
    (hClose : ∀ W, Calls Tryz.prog 57 #[.pointer none] W (Gives0 (.tuple #[]) W))
    (hAll : ∀ W, Calls Tryz.prog 59 #[.pointer none] W (Gives0 (.tuple #[.slice none 0 0, .int .i64 1]) W))
    (hPairs : ∀ W, Calls Tryz.prog 60 #[.pointer none] W (Gives0 (.slice none 0 0) W))
    (hInst : ∀ W, Calls Tryz.prog 61 #[.pointer none, .slice none 0 0] W (Gives0 (.int .i64 1) W))
    (hSnap : ∀ W, Calls Tryz.prog 62 #[.pointer none] W (Gives0 (.agg #[.int .i64 0, .int .i64 0, .slice none 0 0]) W))
    (hFld : ∀ W, (Instr.field 69 (.agg #[.int .i64 0, .int .i64 0, .slice none 0 0]) 0).run Tryz.prog W = .ok (.int .i64 0) W)
    (c0 c1 c2 c3 c4 c5 c6 c7 c8 c9 c12 : Value) (pe pm pp : Option Addr) (le ce lm cm lp cp : Nat) (w : World) (he : TextsAt w 4 3 pe le) (hp : TextsAt w 2 0 pp lp) (hp1 : TextsAt w 2 1 pp lp) (hle : le ≤ 9223372036854775807) (hlm : lm ≤ 9223372036854775807) (hlp : lp ≤ 9223372036854775807) :
    Calls Tryz.prog 9 #[.agg #[c0, c1, c2, c3, c4, c5, c6, c7, c8, c9, .slice pe le ce, .slice pm lm cm, c12, .slice pp lp cp]] w (TrueB w) := by
  have hA := bel_alloc (Below.refl w.heap.size w) (.cells #[c0, c1, c2, c3, c4, c5, c6, c7, c8, c9, .slice pe le ce, .slice pm lm cm, c12, .slice pp lp cp] 111)
  have hL0 := load_at_row (P := Tryz.prog) (t := 111) #[c0, c1, c2, c3, c4, c5, c6, c7, c8, c9, .slice pe le ce, .slice pm lm cm, c12, .slice pp lp cp] (by kernel_rfl) (range_alloc w _ 111)
  go_enter Tryz.func9, Tryz.ntmps9
  go_wp2_with (first
    | (go_at_call 54; refine (smallMsg_any _ _ _ _ _ _ _ _ _ _ _ _ _ _ _ _ _ _ _ _ _ (he.below hA) (hp.below hA) (hp1.below hA) hle hlm hlp).mono ?_; rintro e w1 ⟨⟨t, rfl⟩, hb1⟩; have hz1 := lt_of_below0 hb1; have R1 := range_below (range_alloc w _ 111) hb1 (by simp))
    | (go_at_call 55; refine (hAl _).mono ?_; rintro e w7 ⟨rfl, hb7⟩)
    | (go_at_call 56; refine (piece_zero _ _ z3.1).mono ?_; rintro e w3' ⟨rfl, rfl⟩)
    | (go_at_call 56; refine (hPiece _).mono ?_; rintro e w3 ⟨rfl, hb3⟩; have z3 := kept_cell0 hb3 0 (.pointer none) rfl; have hz3 := lt_of_below0 hb3)
    | (go_at_call 57; refine (close_zero _ _ z4.1).mono ?_; rintro e w4' ⟨rfl, rfl⟩; have R3 := range_below (range_past R1 hz1 _) hb3 (by simp; omega); have R4 := range_below R3 hb4 (by omega); have q0 : w4'.cell? ⟨w.heap.size, 0, none⟩ = some (c0) := R4 0 _ rfl; have q1 : w4'.cell? ⟨w.heap.size, 1, none⟩ = some (c1) := R4 1 _ rfl; have q2 : w4'.cell? ⟨w.heap.size, 2, none⟩ = some (c2) := R4 2 _ rfl; have q3 : w4'.cell? ⟨w.heap.size, 3, none⟩ = some (c3) := R4 3 _ rfl; have q4 : w4'.cell? ⟨w.heap.size, 4, none⟩ = some (c4) := R4 4 _ rfl; have q5 : w4'.cell? ⟨w.heap.size, 5, none⟩ = some (c5) := R4 5 _ rfl; have q6 : w4'.cell? ⟨w.heap.size, 6, none⟩ = some (c6) := R4 6 _ rfl; have q7 : w4'.cell? ⟨w.heap.size, 7, none⟩ = some (c7) := R4 7 _ rfl; have q8 : w4'.cell? ⟨w.heap.size, 8, none⟩ = some (c8) := R4 8 _ rfl; have q9 : w4'.cell? ⟨w.heap.size, 9, none⟩ = some (c9) := R4 9 _ rfl; have q10 : w4'.cell? ⟨w.heap.size, 10, none⟩ = some (.slice pe le ce) := R4 10 _ rfl; have q11 : w4'.cell? ⟨w.heap.size, 11, none⟩ = some (.slice pm lm cm) := R4 11 _ rfl; have q12 : w4'.cell? ⟨w.heap.size, 12, none⟩ = some (c12) := R4 12 _ rfl; have q13 : w4'.cell? ⟨w.heap.size, 13, none⟩ = some (.slice pp lp cp) := R4 13 _ rfl)
    | (go_at_call 57; refine (hClose _).mono ?_; rintro e w4 ⟨rfl, hb4⟩; have z4 := kept_more0 hb4 hz3 z3)
    | (go_at_call 58; refine (take_nil _ _).mono ?_; rintro e w5 ⟨rfl, hb5⟩)
    | (go_at_call 59; refine (hAll _).mono ?_; rintro e w6 ⟨rfl, hb6⟩)
    | (go_at_call 60; refine (hPairs _).mono ?_; rintro e w8 ⟨rfl, hb8⟩)
    | (go_at_call 61; refine (hInst _).mono ?_; rintro e w9 ⟨rfl, hb9⟩)
    | (go_at_call 62; refine (hSnap _).mono ?_; rintro e w10 ⟨rfl, hb10⟩))
  · go_ret
    exact ⟨rfl, bel_then (bel_then hA hb1) hb7⟩
  · go_ret
    exact ⟨rfl, bel_then (bel_then (bel_then (bel_then (bel_then (bel_then (bel_then (bel_then (bel_alloc (bel_then hA hb1) _) hb3) hb4) hb5) hb6) hb7) hb8) hb9) hb10⟩
end Go.Ev
