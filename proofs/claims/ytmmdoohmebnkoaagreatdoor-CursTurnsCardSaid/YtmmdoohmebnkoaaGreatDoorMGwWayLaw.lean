/-
  A device, free pages and a pager are made anew. A pager of a first transaction is made anew; law 11's Begin. A pager of a first transaction is made anew; law 11's Begin. slices.Backward over strings. A tree has a way down for every key.
-/
import Derived.Test.YtmmdoohmebnkoaaGreatDoorMGwSeal
import Derived.Test.YtmmdoohmebnkoaaGreatDoorMGwMake
import Derived.Test.YtmmdoohmebnkoaaGreatDoorMGvTree
import Derived.Carry
import Derived.Test.YtmmdoohmebnkoaaGreatDoorMGvCurs
import Derived.Test.YtmmdoohmebnkoaaGreatDoorMGwUp0
import Derived.Test.YtmmdoohmebnkoaaGreatDoorMGwWay
import Derived.Test.YtmmdoohmebnkoaaGreatDoorMGvFind
set_option linter.unusedVariables false
set_option linter.unusedSimpArgs false
namespace Go.Ev
open Go.Proofs Go.RowKit

theorem devNew_any (most : Nat) (w : World) (h1 : 1 ≤ most) (h2 : most ≤ 3000) :
    Calls Tryz.prog 50 #[.int .i64 most] w fun e w' => e = .returned (.tuple #[ptrV w.heap.size, .int .i64 0]) ∧
      w.alloc (.cells #[.int .i64 most, .bool true, .bool false, .int .i64 0, .slice none 0 0, .slice none 0 0, .chan none] 153) = w' := by
  have g1 : ¬ (most : Int) < 1 := by omega
  have g2 : ¬ (3000 : Int) < (most : Int) := by omega
  go_enter Tryz.func50, Tryz.ntmps50
  go_wp2
  go_ret2
  exact ⟨rfl, rfl⟩

theorem DevAt.new (most : Nat) (w : World) (h2 : most ≤ 3000) :
    DevAt (w.alloc (.cells #[.int .i64 most, .bool true, .bool false, .int .i64 0, .slice none 0 0, .slice none 0 0, .chan none] 153)) w.heap.size most 0 (.slice none 0 0) (.slice none 0 0) :=
  ⟨Blk.new _ _ _, ⟨_, World.ownsRow_nil _ _ _ _⟩, ⟨_, World.ownsRow_nil _ _ _ _⟩, fun k h => (by cases h), ⟨by omega, by omega⟩⟩

theorem refNew_any (most : Nat) (w : World) (h1 : 1 ≤ most) (h2 : most ≤ 3000) :
    Calls Tryz.prog 51 #[.int .i64 most] w fun e w' => e = .returned (.tuple #[ptrV w.heap.size, .int .i64 0]) ∧ w.alloc (.cells (refDev most) 156) = w' := by
  have g1 : ¬ (most : Int) < 1 := by omega
  have g2 : ¬ (3000 : Int) < (most : Int) := by omega
  go_enter Tryz.func51, Tryz.ntmps51
  go_wp2
  go_ret2
  exact ⟨rfl, rfl⟩

theorem freePut_any (b : Nat) (w : World) :
    Calls Tryz.prog 118 #[ptrV b, .slice none 0 0] w fun e w' => e = .returned (.tuple #[]) ∧ w' = w := by
  go_enter Tryz.func118, Tryz.ntmps118
  go_wp2
  go_loopg [10] 0 (fun gk s10 wr => s10 = .int .i64 0 ∧ wr = w)
  case atStart => exact ⟨rfl, rfl⟩
  case round =>
    obtain ⟨rfl, rfl⟩ := hrel
    go_wp2_with (fail)
    refine bodyPost_end (results_none rfl _ _ _) rfl ?_
    exact ⟨rfl, rfl⟩

theorem freeNew_any (w : World) :
    Calls Tryz.prog 54 #[.slice none 0 0] w fun e w' => e = .returned (ptrV w.heap.size) ∧ w.alloc (.cells #[.slice none 0 0, .slice none 0 0, .map none] 167) = w' := by
  have hB : ∀ W : World, Calls Tryz.prog 83 #[ptrV w.heap.size, .slice none 0 0] W fun e w' => e = .returned (.tuple #[]) ∧ w' = W := by
    intro W
    go_enter Tryz.func83, Tryz.ntmps83
    go_wp2_with (fail)
    go_must (refine (freePut_any _ _).mono ?_)
    rintro e w1 ⟨rfl, rfl⟩
    go_wp2
    refine bodyPost_end (results_none rfl _ _ _) rfl ?_
    exact ⟨rfl, rfl⟩
  go_enter Tryz.func54, Tryz.ntmps54
  go_wp2_with (fail)
  go_must (refine (hB _).mono ?_)
  rintro e w1 ⟨rfl, rfl⟩
  go_wp2
  go_ret
  exact ⟨rfl, rfl⟩
end Go.Ev

namespace Go.Ev
open Go.Proofs Go.RowKit

set_option maxRecDepth 100000 in
theorem cloneNil_any (w : World) : Calls Tryz.prog 123 #[.slice none 0 0] w fun e w' => e = .returned (.slice none 0 0) ∧ w = w' := by
  have q22 : ∀ (w : World) (a : Option Addr) (n c n' c' : Nat), (binOp .eql 68 (.slice a n c) (.slice none n' c')).run Tryz.prog w = .ok (.bool a.isNone) w := fun w a n c n' c' => Lib.run_eql_slice_nil w _ 3 a n c n' c' Tryz.underlying68
  go_enter Tryz.func123, Tryz.ntmps123
  go_wp2
  go_ret
  exact ⟨rfl, rfl⟩

theorem heapInit_nil (b : Nat) (w : World) (h : w.cell? ⟨b, 0, none⟩ = some (.slice none 0 0)) :
    Calls Tryz.prog 124 #[.iface 219 (.pointer (some ⟨b, 0, none⟩))] w fun e w' => e = .returned (.tuple #[]) ∧ w = w' := by
  have hm := m_len b _ w h
  go_enter Tryz.func124, Tryz.ntmps124
  go_wp2_with (fail)
  go_must (refine (lenN_any _ _ _ _).mono ?_)
  rintro e w2 ⟨rfl, rfl⟩
  go_wp2_with (fail)
  go_loopg [3] 0 (fun gk s3 wr => s3 = .int .i64 (-1) ∧ wr = w2)
  case atStart => exact ⟨rfl, rfl⟩
  case round =>
    obtain ⟨rfl, rfl⟩ := hrel
    go_wp2_with (fail)
    refine bodyPost_end (results_none rfl _ _ _) rfl ?_
    exact ⟨rfl, rfl⟩

theorem pileNew_any (w : World) :
    Calls Tryz.prog 88 #[.slice none 0 0] w fun e w' => e = .returned (ptrV w.heap.size) ∧ w.alloc (.cells #[.slice none 0 0] 163) = w' := by
  have hb : Blk (w.alloc (.cells #[.slice none 0 0] 163)) w.heap.size 163 #[.slice none 0 0] := Blk.new _ _ _
  have hI := Lib.hid (heapInit_nil w.heap.size _ (hb.cell 0))
  clear hb
  go_enter Tryz.func88, Tryz.ntmps88
  go_wp2_with (fail)
  go_must (refine (cloneNil_any _).mono ?_)
  rintro e w1 ⟨rfl, rfl⟩
  go_wp2_with (fail)
  go_must (refine hI.out.mono ?_)
  rintro e w2 ⟨rfl, rfl⟩
  go_wp2
  go_ret
  exact ⟨rfl, rfl⟩

/-- A pager without its maps and its pile. -/
def pg0 (d f : Nat) : Array Value := #[ptrV d, ptrV f, .int .i64 2, .int .i64 2, .int .i64 1, .map none, .map none, .map none, .pointer none]

def ClearP (p d f : Nat) (w : World) (e : Ending) (w' : World) : Prop :=
  e = .returned (.tuple #[]) ∧ ∃ mb db wb sb, Blk w' p 121 #[ptrV d, ptrV f, .int .i64 2, .int .i64 2, .int .i64 1, .map (some mb), .map (some db), .map (some wb), ptrV sb] ∧ MapI w' mb [] 0 ∧ MapI w' db [] 0 ∧ MapI w' wb [] 0 ∧ Pl w' sb (.slice none 0 0) [] ∧
    w.heap.size ≤ mb ∧ mb < db ∧ db < wb ∧ wb < sb ∧ Keeps (fun k => k = p) w w'

theorem MapI.newM (w : World) : MapI (w.alloc (.map #[] 0)) w.heap.size [] 0 := heap_alloc_new w _

theorem MapI.allocM {w : World} {b c : Nat} {l : List Ent} (h : MapI w b l c) (o : Obj) : MapI (w.alloc o) b l c := h.keeps (S := fun _ => False) (Keeps.of_below ((Below.refl _ w).alloc (Nat.le_refl _) o)) fun h => h
theorem MapI.setM {w : World} {b c : Nat} {l : List Ent} (h : MapI w b l c) {q : Addr} (hq : b ≠ q.block) (u : Value) : MapI (w.setCell q u) b l c := h.keeps (S := fun k => k = q.block) ((Keeps.refl (fun k => k = q.block) w).setCell (fun _ => rfl) u) hq

theorem pl_new (w : World) : Pl (w.alloc (.cells #[.slice none 0 0] 163)) w.heap.size (.slice none 0 0) [] := by
  have hb : Blk (w.alloc (.cells #[.slice none 0 0] 163)) w.heap.size 163 #[.slice none 0 0] := Blk.new _ _ _
  exact ⟨hb.cell 0, hb.frozen 0, hb.lt, World.ownsRow_nil _ _ _ _, by simp [Value.ownBlock]⟩

theorem clear_end {p d f : Nat} {w w1 w2 w3 w4 : World} (h : Blk w p 121 (pg0 d f)) (e1 : w.alloc (.map #[] 0) = w1) (e2 : w1.alloc (.map #[] 0) = w2) (e3 : w2.alloc (.map #[] 0) = w3) (e4 : w3.alloc (.cells #[.slice none 0 0] 163) = w4) :
    ClearP p d f w (.returned (.tuple #[])) ((((w4.setCell ⟨p, 5, none⟩ (.map (some w.heap.size))).setCell ⟨p, 6, none⟩ (.map (some w1.heap.size))).setCell ⟨p, 7, none⟩ (.map (some w2.heap.size))).setCell ⟨p, 8, none⟩ (ptrV w3.heap.size)) := by
  have hp := h.lt
  have z1 : w1.heap.size = w.heap.size + 1 := by subst e1; simp
  have z2 : w2.heap.size = w.heap.size + 2 := by subst e2; simp [z1]
  have z3 : w3.heap.size = w.heap.size + 3 := by subst e3; simp [z2]
  have hb : Blk w4 p 121 (pg0 d f) := by subst e4 e3 e2 e1; exact (((h.alloc _).alloc _).alloc _).alloc _
  have K : Keeps (fun k => k = p) w4 ((((w4.setCell ⟨p, 5, none⟩ (.map (some w.heap.size))).setCell ⟨p, 6, none⟩ (.map (some w1.heap.size))).setCell ⟨p, 7, none⟩ (.map (some w2.heap.size))).setCell ⟨p, 8, none⟩ (ptrV w3.heap.size)) :=
    ((((Keeps.refl (fun k => k = p) w4).setCell (p := ⟨p, 5, none⟩) (fun _ => rfl) _).setCell (p := ⟨p, 6, none⟩) (fun _ => rfl) _).setCell (p := ⟨p, 7, none⟩) (fun _ => rfl) _).setCell (p := ⟨p, 8, none⟩) (fun _ => rfl) _
  have K0 : Keeps (fun k => k = p) w w4 := by subst e4 e3 e2 e1; exact ((((Keeps.refl _ w).alloc _).alloc _).alloc _).alloc _
  have m1 : MapI w4 w.heap.size [] 0 := by subst e4 e3 e2 e1; exact (((MapI.newM w).allocM _).allocM _).allocM _
  have m2 : MapI w4 w1.heap.size [] 0 := by subst e4 e3 e2; exact ((MapI.newM w1).allocM _).allocM _
  have m3 : MapI w4 w2.heap.size [] 0 := by subst e4 e3; exact (MapI.newM w2).allocM _
  have m4 : Pl w4 w3.heap.size (.slice none 0 0) [] := by subst e4; exact pl_new w3
  refine ⟨rfl, w.heap.size, w1.heap.size, w2.heap.size, w3.heap.size, ?_, m1.keeps K (by omega), m2.keeps K (by omega), m3.keeps K (by omega), m4.keeps K (by omega) (fun k e => by cases e), by omega, by omega, by omega, by omega, K0.trans K fun _ _ e => e⟩
  exact (((hb.set 5 _).set 6 _).set 7 _).set 8 _

set_option maxHeartbeats 1000000 in
theorem clear_any (p d f : Nat) (w : World) (h : Blk w p 121 (pg0 d f)) : Calls Tryz.prog 60 #[ptrV p] w (ClearP p d f w) := by
  have hp := h.lt
  obtain ⟨w1, e1⟩ : ∃ w1, w.alloc (.map #[] 0) = w1 := ⟨_, rfl⟩
  obtain ⟨w2, e2⟩ : ∃ w2, w1.alloc (.map #[] 0) = w2 := ⟨_, rfl⟩
  obtain ⟨w3, e3⟩ : ∃ w3, w2.alloc (.map #[] 0) = w3 := ⟨_, rfl⟩
  obtain ⟨w4, e4⟩ : ∃ w4, w3.alloc (.cells #[.slice none 0 0] 163) = w4 := ⟨_, rfl⟩
  have hb : Blk w4 p 121 (pg0 d f) := by subst e4 e3 e2 e1; exact (((h.alloc _).alloc _).alloc _).alloc _
  have HE := Lib.hid (clear_end h e1 e2 e3 e4)
  have f5 := hb.frozen 5
  have f6 := hb.frozen 6
  have f7 := hb.frozen 7
  have f8 := hb.frozen 8
  have c5 : w4.cell? ⟨p, 5, none⟩ = some (.map none) := hb.cell 5
  have c6 : w4.cell? ⟨p, 6, none⟩ = some (.map none) := hb.cell 6
  have c7 : w4.cell? ⟨p, 7, none⟩ = some (.map none) := hb.cell 7
  have c8 : w4.cell? ⟨p, 8, none⟩ = some (.pointer none) := hb.cell 8
  have hN := Lib.hid (pileNew_any w3)
  rw [e4] at hN
  subst e1 e2 e3
  clear e4 hb h
  have hMM : ∀ (t : TypeId) (W : World), (Instr.makeMap t none).run Tryz.prog W = .ok (.map (some W.heap.size)) (W.alloc (.map #[] 0)) := fun t W => run_makeMap t W
  go_enter Tryz.func60, Tryz.ntmps60
  go_wp2_with (fail)
  go_must (refine hN.out.mono ?_)
  rintro e w5 ⟨rfl, rfl⟩
  go_wp2_with (fail)
  go_end0
  have hE := HE.out
  simp only [World.size_alloc] at hE
  exact hE

set_option maxRecDepth 100000 in
theorem listNil_any (f : Nat) (w : World) (h : w.cell? ⟨f, 0, none⟩ = some (.slice none 0 0)) :
    Calls Tryz.prog 86 #[ptrV f] w fun e w' => e = .returned (.slice none 0 0) ∧ Below w.heap.size w w' := by
  go_enter Tryz.func86, Tryz.ntmps86
  have hV : Calls Tryz.prog 120 #[.slice none 0 0] w fun e w' => e = .returned (.func (.func 159) #[] #[.pointer (some ⟨w.heap.size, 0, none⟩)]) ∧ w.alloc (.cells #[.slice none 0 0] 161) = w' := by
    go_enter Tryz.func120, Tryz.ntmps120
    go_wp2
    go_ret
    exact ⟨rfl, rfl⟩
  go_wp2_with (fail)
  go_must (refine hV.mono ?_)
  rintro e w1 ⟨rfl, rfl⟩
  go_wp2_with (fail)
  go_must (refine (sorted_nil (Blk.new _ _ _)).mono ?_)
  rintro e w2 ⟨rfl, hk⟩
  go_wp2_with (fail)
  go_ret
  refine ⟨rfl, ((Below.refl _ w).alloc (Nat.le_refl _) _).trans (hk.below (by simp) fun i hi e => by omega)⟩

set_option maxRecDepth 100000 in
set_option maxHeartbeats 2000000 in
theorem freeAll_any (f : Nat) (w : World) (h : Blk w f 167 #[.slice none 0 0, .slice none 0 0, .map none]) :
    Calls Tryz.prog 58 #[ptrV f] w fun e w' => e = .returned (.slice none 0 0) ∧ Below w.heap.size w w' := by
  have hL := Lib.hid (listNil_any f w (h.cell 0))
  have hlt := h.lt
  have g1 : w.cell? ⟨f, 1, none⟩ = some (.slice none 0 0) := h.cell 1
  clear h
  go_enter Tryz.func58, Tryz.ntmps58
  go_wp2_with (fail)
  go_must (refine hL.out.mono ?_)
  rintro e w1 ⟨rfl, hb⟩
  have g1' : w1.cell? ⟨f, 1, none⟩ = some (.slice none 0 0) := (hb.cell (p := ⟨f, 1, none⟩) hlt).trans g1
  go_wp2_with (fail)
  go_loopg [3, 17] 0 (fun gk s3 s17 wr => s3 = .slice none 0 0 ∧ s17 = .int .i64 0 ∧ wr = w1)
  case atStart => exact ⟨rfl, rfl, rfl⟩
  case round =>
    obtain ⟨rfl, rfl, rfl⟩ := hrel
    go_wp2_with (fail)
    go_must (refine (sort_nil _).mono ?_)
    rintro e w2 ⟨rfl, hb2⟩
    go_wp2_with (fail)
    go_ret
    exact ⟨rfl, hb.trans (hb2.mono hb.size)⟩

set_option maxRecDepth 100000 in
theorem indexNil_any (F : Value) (w : World) : Calls Tryz.prog 85 #[.slice none 0 0, F] w fun e w' => e = .returned (.int .i64 (-1)) ∧ w = w' := by
  go_enter Tryz.func85, Tryz.ntmps85
  go_wp2_with (fail)
  go_loopg [8] 0 (fun gk s8 wr => s8 = .int .i64 0 ∧ wr = w)
  case atStart => exact ⟨rfl, rfl⟩
  case round =>
    obtain ⟨rfl, rfl⟩ := hrel
    go_wp2_with (fail)
    go_ret
    exact ⟨rfl, rfl⟩

set_option maxRecDepth 100000 in
theorem containsNil_any (F : Value) (w : World) : Calls Tryz.prog 57 #[.slice none 0 0, F] w fun e w' => e = .returned (.bool false) ∧ w = w' := by
  go_enter Tryz.func57, Tryz.ntmps57
  go_wp2_with (fail)
  go_must (refine (indexNil_any _ _).mono ?_)
  rintro e w1 ⟨rfl, rfl⟩
  go_wp2
  go_ret
  exact ⟨rfl, rfl⟩
end Go.Ev

namespace Go.Ev
open Go.Proofs Go.RowKit

theorem pgInv_new : PgInv 2 [] [] [] := by
  refine ⟨List.nodup_nil, List.nodup_nil, List.nodup_nil, fun k => Iff.rfl, fun k => ⟨fun h => by omega, fun h => by rcases h with h | h <;> cases h⟩, (fun k h => by cases h), (fun k v h => by cases h), Nat.le_refl _, (fun k v h => by cases h)⟩

theorem pages_new : Pages [] (fun _ => none) := fun _ => rfl

theorem pgOk_new {w : World} {p d f mb db wb sb B : Nat} {sy nw : Value} (h : Blk w p 121 #[ptrV d, ptrV f, .int .i64 2, .int .i64 2, .int .i64 1, .map (some mb), .map (some db), .map (some wb), ptrV sb])
    (hf : Blk w f 167 #[.slice none 0 0, .slice none 0 0, .map none]) (hd : DevAt w d 3000 2 sy nw) (m1 : MapI w mb [] 0) (m2 : MapI w db [] 0) (m3 : MapI w wb [] 0) (hs : Pl w sb (.slice none 0 0) [])
    (hdB : d < B) (hfB : f < B) (hsy : ∀ k, sy.ownBlock = some k → k < B) (hnw : ∀ k, nw.ownBlock = some k → k < B) (hp : B ≤ p) (h1 : p < mb) (h2 : mb < db) (h3 : db < wb) (h4 : wb < sb) :
    PgOk w p ⟨d, f, mb, db, wb, sb, .slice none 0 0, sy, nw⟩ 3000 (fun _ => none) 0 := by
  have hdf : d ≠ f := by
    rintro rfl
    have := (hd.blk.eq hf).1
    revert this
    decide
  have hsyd : ∀ k, sy.ownBlock = some k → k ≠ d ∧ k ≠ f := fun k e => by
    obtain ⟨cs, hr⟩ := hd.srow
    exact ⟨own_ne hr hd.blk (by decide) k e, own_ne hr hf (by decide) k e⟩
  have hnwd : ∀ k, nw.ownBlock = some k → k ≠ d ∧ k ≠ f := fun k e => by
    obtain ⟨cs, hr⟩ := hd.nrow
    exact ⟨own_ne hr hd.blk (by decide) k e, own_ne hr hf (by decide) k e⟩
  refine ⟨2, [], [], 0, 0, 0, [], ⟨h, hf, hd, m1, m2, m3, hs, ?_, ?_, ?_, ?_, Nat.le_refl _, by omega⟩, pgInv_new, pages_new, rfl⟩
  · simp only [Pc.ids, List.nodup_cons, List.mem_cons, List.not_mem_nil, or_false, not_or, List.nodup_nil, not_false_eq_true, and_true]
    refine ⟨⟨?_, ?_, ?_, ?_, ?_, ?_⟩, ⟨hdf, ?_, ?_, ?_, ?_⟩, ⟨?_, ?_, ?_, ?_⟩, ⟨?_, ?_, ?_⟩, ⟨?_, ?_⟩, ?_⟩ <;> omega
  · intro k e; cases e
  · intro k e hm
    have a := hsyd k e
    have b := hsy k e
    simp only [Pc.ids, List.mem_cons, List.not_mem_nil, or_false] at hm
    rcases hm with hm | hm | hm | hm | hm | hm | hm <;> omega
  · intro k e hm
    have a := hnwd k e
    have b := hnw k e
    simp only [Pc.ids, List.mem_cons, List.not_mem_nil, or_false] at hm
    rcases hm with hm | hm | hm | hm | hm | hm | hm <;> omega

def PNewP (d f : Nat) (sy nw : Value) (w : World) (e : Ending) (w' : World) : Prop :=
  ∃ p c, e = .returned (.tuple #[ptrV p, .int .i64 0]) ∧ PgOk w' p c 3000 (fun _ => none) 0 ∧ (∀ k, c.S p k → k = d ∨ k = f ∨ sy.ownBlock = some k ∨ nw.ownBlock = some k ∨ w.heap.size ≤ k) ∧ Below w.heap.size w w'

theorem pnew_end {d f p : Nat} {sy nw : Value} {w w1 w2 w3 : World} (hd : DevAt w d 3000 2 sy nw) (hf : Blk w f 167 #[.slice none 0 0, .slice none 0 0, .map none]) (h1 : Below w.heap.size w w1) (hp : p = w1.heap.size) (e2 : w1.alloc (.cells (pg0 d f) 121) = w2) {e : Ending} (hc : ClearP p d f w2 e w3) :
    PNewP d f sy nw w (.returned (.tuple #[ptrV p, .int .i64 0])) w3 := by
  have hb2 : Below w.heap.size w w2 := by subst e2; exact h1.alloc h1.size _
  have z2 : w2.heap.size = w1.heap.size + 1 := by subst e2; simp
  have hz := h1.size
  obtain ⟨_, mb, db, wb, sb, k1, k2, k3, k4, k5, k6, k7, k8, k9, kK⟩ := hc
  have hb3 : Below w.heap.size w w3 := hb2.trans (kK.below (by omega) (fun i hi e => by omega))
  have hd3 : DevAt w3 d 3000 2 sy nw := hd.keeps (S := fun _ => False) (Keeps.of_below hb3) fun _ _ h => h
  have hf3 := hf.below' hb3
  refine ⟨p, _, rfl, pgOk_new (B := w.heap.size) k1 hf3 hd3 k2 k3 k4 k5 hd.blk.lt hf.lt ?_ ?_ (by omega) (by omega) k7 k8 k9, ?_, hb3⟩
  · intro k e; obtain ⟨cs, hr⟩ := hd.srow; exact (hr.lt k e).2
  · intro k e; obtain ⟨cs, hr⟩ := hd.nrow; exact (hr.lt k e).2
  · rintro k (hk | hk | hk | hk)
    · simp only [Pc.ids, List.mem_cons, List.not_mem_nil, or_false] at hk
      rcases hk with hk | hk | hk | hk | hk | hk | hk
      · right; right; right; right; omega
      · left; omega
      · right; left; omega
      · right; right; right; right; omega
      · right; right; right; right; omega
      · right; right; right; right; omega
      · right; right; right; right; omega
    · cases hk
    · exact .inr (.inr (.inl hk))
    · exact .inr (.inr (.inr (.inl hk)))

set_option maxHeartbeats 2000000 in
set_option maxRecDepth 100000 in
theorem pagerNew_any (d f : Nat) (sy nw : Value) (w : World) (hd : DevAt w d 3000 2 sy nw) (hf : Blk w f 167 #[.slice none 0 0, .slice none 0 0, .map none]) :
    Calls Tryz.prog 33 #[ptrV d, ptrV f, .int .i64 2, .int .i64 1] w (PNewP d f sy nw w) := by
  have hb0 : Below w.heap.size w (w.alloc (.cells #[.int .i64 2] 3)).drew := ((Below.refl _ w).alloc (Nat.le_refl _) _).drew
  have bx : Blk (w.alloc (.cells #[.int .i64 2] 3)).drew w.heap.size 3 #[.int .i64 2] := (Blk.new _ _ _).drew
  have x0 : (w.alloc (.cells #[.int .i64 2] 3)).drew.cell? ⟨w.heap.size, 0, none⟩ = some (.int .i64 2) := bx.cell 0
  have hL := Lib.hid (devLen_any d 3000 2 sy nw _ (hd.keeps (S := fun _ => False) (Keeps.of_below hb0) fun _ _ h => h))
  have hA := Lib.hid (freeAll_any f _ (hf.below' hb0))
  have hE := Lib.hid (fun (w1 w2 w3 : World) (p : Nat) (h1 : Below w.heap.size w w1) (hp : p = w1.heap.size) e2 e hc => pnew_end (w1 := w1) (w2 := w2) (w3 := w3) (e := e) hd hf h1 hp e2 hc)
  have hzz : (w.alloc (.cells #[.int .i64 2] 3)).drew.heap.size = w.heap.size + 1 := by simp
  have HB := Lib.hid hb0
  have HBX := Lib.hid bx
  have X0 := Lib.hid x0
  clear hd hf hb0 bx x0
  go_enter Tryz.func33, Tryz.ntmps33
  go_wp2_with (fail)
  have x0 := X0.out
  refine wp_region_any (by kernel_rfl) ?_
  change wpAny _ _ _ _ _ _ _ (World.drew _)
  try simp only [Act.put, List.setIfInBounds_toArray, List.set_cons_zero, List.set_cons_succ]
  refine wpAny_take (oi := { dst := _, op := _, type := _, pos := _, after := _, guard := _ }) (i := 0) (v := ?_) rfl (by kernel_rfl) (by kernel_rfl) (by kernel_rfl) (fun _ _ _ h => h) (Or.inl ⟨by rfl, ?hy⟩) ?_
  case hy => (intro w; go_simp; try with_reducible rfl)
  try simp only [Act.put, List.setIfInBounds_toArray, List.set_cons_zero, List.set_cons_succ]
  try simp only [Act.put, List.setIfInBounds_toArray, List.set_cons_zero, List.set_cons_succ]
  refine wpAny_take (oi := { dst := _, op := _, type := _, pos := _, after := _, guard := _ }) (i := 1) (v := ?_) rfl (by kernel_rfl) (by kernel_rfl) (by kernel_rfl) (fun _ _ _ h => h) (Or.inl ⟨by rfl, ?hy⟩) ?_
  case hy => (intro w; go_simp; try with_reducible rfl)
  try simp only [Act.put, List.setIfInBounds_toArray, List.set_cons_zero, List.set_cons_succ]
  try simp only [Act.put, List.setIfInBounds_toArray, List.set_cons_zero, List.set_cons_succ]
  refine wpAny_take (oi := { dst := _, op := _, type := _, pos := _, after := _, guard := _ }) (i := 2) (v := ?_) rfl (by kernel_rfl) (by kernel_rfl) (by kernel_rfl) (fun _ _ _ h => h) (Or.inl ⟨by rfl, ?hy⟩) ?_
  case hy => (intro w; go_simp; try with_reducible rfl)
  try simp only [Act.put, List.setIfInBounds_toArray, List.set_cons_zero, List.set_cons_succ]
  try simp only [Act.put, List.setIfInBounds_toArray, List.set_cons_zero, List.set_cons_succ]
  refine wpAny_take (oi := { dst := _, op := _, type := _, pos := _, after := _, guard := _ }) (i := 3) (v := ?_) rfl (by kernel_rfl) (by kernel_rfl) (by kernel_rfl) (fun _ _ _ h => h) (Or.inl ⟨by rfl, ?hy⟩) ?_
  case hy => (intro w; go_simp; try with_reducible rfl)
  try simp only [Act.put, List.setIfInBounds_toArray, List.set_cons_zero, List.set_cons_succ]
  try simp only [Act.put, List.setIfInBounds_toArray, List.set_cons_zero, List.set_cons_succ]
  refine wpAny_take (oi := { dst := _, op := _, type := _, pos := _, after := _, guard := _ }) (i := 4) (v := ?_) rfl (by kernel_rfl) (by kernel_rfl) (by kernel_rfl) (fun _ _ _ h => h) (Or.inl ⟨by rfl, ?hy⟩) ?_
  case hy => (intro w; go_simp; try with_reducible rfl)
  try simp only [Act.put, List.setIfInBounds_toArray, List.set_cons_zero, List.set_cons_succ]
  try simp only [Act.put, List.setIfInBounds_toArray, List.set_cons_zero, List.set_cons_succ]
  refine wpAny_take (oi := { dst := _, op := _, type := _, pos := _, after := _, guard := _ }) (i := 5) (v := ?_) rfl (by kernel_rfl) (by kernel_rfl) (by kernel_rfl) (fun _ _ _ h => h) (Or.inl ⟨by rfl, ?hy⟩) ?_
  case hy => (intro w; go_simp; try with_reducible rfl)
  try simp only [Act.put, List.setIfInBounds_toArray, List.set_cons_zero, List.set_cons_succ]
  try simp only [Act.put, List.setIfInBounds_toArray, List.set_cons_zero, List.set_cons_succ]
  refine wpAny_take (oi := { dst := _, op := _, type := _, pos := _, after := _, guard := _ }) (i := 6) (v := ?_) rfl (by kernel_rfl) (by kernel_rfl) (by kernel_rfl) (fun _ _ _ h => h) (Or.inl ⟨by rfl, ?hy⟩) ?_
  case hy => (intro w; go_simp; try with_reducible rfl)
  try simp only [Act.put, List.setIfInBounds_toArray, List.set_cons_zero, List.set_cons_succ]
  refine wpAny_ready (rs := [7]) (by kernel_rfl) (by simp) (AllReady.cons (o := { dst := _, op := _, type := _, pos := _, after := _, guard := _ }) rfl (fun K hK => ?_) AllReady.nil)
  go_simp
  refine hK _ _ ?_
  clear hK K
  try simp only [Act.put, List.setIfInBounds_toArray, List.set_cons_zero, List.set_cons_succ]
  refine wpAny_take (oi := { dst := _, op := _, type := _, pos := _, after := _, guard := _ }) (i := 8) (v := ?_) rfl (by kernel_rfl) (by kernel_rfl) (by kernel_rfl) (fun _ _ _ h => h) (Or.inl ⟨by rfl, ?hy⟩) ?_
  case hy => (intro w; go_simp; try with_reducible rfl)
  try simp only [Act.put, List.setIfInBounds_toArray, List.set_cons_zero, List.set_cons_succ]
  try simp only [Act.put, List.setIfInBounds_toArray, List.set_cons_zero, List.set_cons_succ]
  refine wpAny_take (oi := { dst := _, op := _, type := _, pos := _, after := _, guard := _ }) (i := 9) (v := ?_) rfl (by kernel_rfl) (by kernel_rfl) (by kernel_rfl) (fun _ _ _ h => h) (Or.inl ⟨by rfl, ?hy⟩) ?_
  case hy => (intro w; go_simp; try with_reducible rfl)
  try simp only [Act.put, List.setIfInBounds_toArray, List.set_cons_zero, List.set_cons_succ]
  try simp only [Act.put, List.setIfInBounds_toArray, List.set_cons_zero, List.set_cons_succ]
  refine wpAny_take (oi := { dst := _, op := _, type := _, pos := _, after := _, guard := _ }) (i := 10) (v := ?_) rfl (by kernel_rfl) (by kernel_rfl) (by kernel_rfl) (fun _ _ _ h => h) (Or.inl ⟨by rfl, ?hy⟩) ?_
  case hy => (intro w; go_simp; try with_reducible rfl)
  try simp only [Act.put, List.setIfInBounds_toArray, List.set_cons_zero, List.set_cons_succ]
  try simp only [Act.put, List.setIfInBounds_toArray, List.set_cons_zero, List.set_cons_succ]
  refine wpAny_take (oi := { dst := _, op := _, type := _, pos := _, after := _, guard := _ }) (i := 12) (v := ?_) rfl (by kernel_rfl) (by kernel_rfl) (by kernel_rfl) (fun _ _ _ h => h) (Or.inl ⟨by rfl, ?hy⟩) ?_
  case hy => (intro w; go_simp; try with_reducible rfl)
  try simp only [Act.put, List.setIfInBounds_toArray, List.set_cons_zero, List.set_cons_succ]
  refine wpAny_ready (rs := [11, 13]) (by kernel_rfl) (by simp) (AllReady.cons (o := { dst := _, op := _, type := _, pos := _, after := _, guard := _ }) rfl (fun K hK => ?_) (AllReady.cons (o := { dst := _, op := _, type := _, pos := _, after := _, guard := _ }) rfl (fun K hK => ?_) AllReady.nil))
  · go_simp
    refine hK _ _ ?_
    clear hK K
    refine wpAny_ready (rs := [13]) (by kernel_rfl) (by simp) (AllReady.cons (o := { dst := _, op := _, type := _, pos := _, after := _, guard := _ }) rfl (fun K hK => ?_) AllReady.nil)
    go_simp
    (go_must (refine hL.out.mono ?_); rintro e w2 ⟨rfl, rfl⟩)
    go_simp
    refine hK _ _ ?_
    clear hK K
    try simp only [Act.put, List.setIfInBounds_toArray, List.set_cons_zero, List.set_cons_succ]
    refine wpAny_take (oi := { dst := _, op := _, type := _, pos := _, after := _, guard := _ }) (i := 14) (v := ?_) rfl (by kernel_rfl) (by kernel_rfl) (by kernel_rfl) (fun _ _ _ h => h) (Or.inl ⟨by rfl, ?hy⟩) ?_
    case hy => (intro w; go_simp; try with_reducible rfl)
    try simp only [Act.put, List.setIfInBounds_toArray, List.set_cons_zero, List.set_cons_succ]
    try simp only [Act.put, List.setIfInBounds_toArray, List.set_cons_zero, List.set_cons_succ]
    refine wpAny_take (oi := { dst := _, op := _, type := _, pos := _, after := _, guard := _ }) (i := 15) (v := ?_) rfl (by kernel_rfl) (by kernel_rfl) (by kernel_rfl) (fun _ _ _ h => h) (Or.inl ⟨by rfl, ?hy⟩) ?_
    case hy => (intro w; go_simp; try with_reducible rfl)
    try simp only [Act.put, List.setIfInBounds_toArray, List.set_cons_zero, List.set_cons_succ]
    try simp only [Act.put, List.setIfInBounds_toArray, List.set_cons_zero, List.set_cons_succ]
    refine wpAny_take (oi := { dst := _, op := _, type := _, pos := _, after := _, guard := _ }) (i := 16) (v := ?_) rfl (by kernel_rfl) (by kernel_rfl) (by kernel_rfl) (fun _ _ _ h => h) (Or.inl ⟨by rfl, ?hy⟩) ?_
    case hy => (intro w; go_simp; try with_reducible rfl)
    try simp only [Act.put, List.setIfInBounds_toArray, List.set_cons_zero, List.set_cons_succ]
    try simp only [Act.put, List.setIfInBounds_toArray, List.set_cons_zero, List.set_cons_succ]
    refine wpAny_take (oi := { dst := _, op := _, type := _, pos := _, after := _, guard := _ }) (i := 17) (v := ?_) rfl (by kernel_rfl) (by kernel_rfl) (by kernel_rfl) (fun _ _ _ h => h) (Or.inl ⟨by rfl, ?hy⟩) ?_
    case hy => (intro w; go_simp; try with_reducible rfl)
    try simp only [Act.put, List.setIfInBounds_toArray, List.set_cons_zero, List.set_cons_succ]
    try simp only [Act.put, List.setIfInBounds_toArray, List.set_cons_zero, List.set_cons_succ]
    refine wpAny_take (oi := { dst := _, op := _, type := _, pos := _, after := _, guard := _ }) (i := 18) (v := ?_) rfl (by kernel_rfl) (by kernel_rfl) (by kernel_rfl) (fun _ _ _ h => h) (Or.inl ⟨by rfl, ?hy⟩) ?_
    case hy => (intro w; go_simp; try with_reducible rfl)
    try simp only [Act.put, List.setIfInBounds_toArray, List.set_cons_zero, List.set_cons_succ]
    try simp only [Act.put, List.setIfInBounds_toArray, List.set_cons_zero, List.set_cons_succ]
    refine wpAny_take (oi := { dst := _, op := _, type := _, pos := _, after := _, guard := _ }) (i := 19) (v := ?_) rfl (by kernel_rfl) (by kernel_rfl) (by kernel_rfl) (fun _ _ _ h => h) (Or.inl ⟨by rfl, ?hy⟩) ?_
    case hy => (intro w; go_simp; try with_reducible rfl)
    try simp only [Act.put, List.setIfInBounds_toArray, List.set_cons_zero, List.set_cons_succ]
    refine wpAny_done (by kernel_rfl) ?_ _
    go_wp2_with (fail)
    go_must (refine hA.out.mono ?_)
    rintro e w3 ⟨rfl, hb3⟩
    have x3 : w3.cell? ⟨w.heap.size, 0, none⟩ = some (.int .i64 2) := (HBX.out.below' hb3).cell 0
    have hz3 := hb3.size
    go_wp2_with (fail)
    go_must (refine (containsNil_any _ _).mono ?_)
    rintro e w4 ⟨rfl, rfl⟩
    go_wp2_with (fail)
    go_must (refine (clear_any w3.heap.size d f _ (Blk.new _ _ _)).mono ?_)
    intro e w5 hc
    have HC := Lib.hid hc
    obtain ⟨rfl, _⟩ := hc
    go_wp2_with (fail)
    go_ret2
    exact hE.out w3 _ w5 w3.heap.size (HB.out.trans (hb3.mono (by simp))) rfl rfl _ HC.out
  · go_simp
    (go_must (refine hL.out.mono ?_); rintro e w2 ⟨rfl, rfl⟩)
    go_simp
    refine hK _ _ ?_
    clear hK K
    refine wpAny_ready (rs := [11]) (by kernel_rfl) (by simp) (AllReady.cons (o := { dst := _, op := _, type := _, pos := _, after := _, guard := _ }) rfl (fun K hK => ?_) AllReady.nil)
    go_simp
    refine hK _ _ ?_
    clear hK K
    try simp only [Act.put, List.setIfInBounds_toArray, List.set_cons_zero, List.set_cons_succ]
    refine wpAny_take (oi := { dst := _, op := _, type := _, pos := _, after := _, guard := _ }) (i := 14) (v := ?_) rfl (by kernel_rfl) (by kernel_rfl) (by kernel_rfl) (fun _ _ _ h => h) (Or.inl ⟨by rfl, ?hy⟩) ?_
    case hy => (intro w; go_simp; try with_reducible rfl)
    try simp only [Act.put, List.setIfInBounds_toArray, List.set_cons_zero, List.set_cons_succ]
    try simp only [Act.put, List.setIfInBounds_toArray, List.set_cons_zero, List.set_cons_succ]
    refine wpAny_take (oi := { dst := _, op := _, type := _, pos := _, after := _, guard := _ }) (i := 15) (v := ?_) rfl (by kernel_rfl) (by kernel_rfl) (by kernel_rfl) (fun _ _ _ h => h) (Or.inl ⟨by rfl, ?hy⟩) ?_
    case hy => (intro w; go_simp; try with_reducible rfl)
    try simp only [Act.put, List.setIfInBounds_toArray, List.set_cons_zero, List.set_cons_succ]
    try simp only [Act.put, List.setIfInBounds_toArray, List.set_cons_zero, List.set_cons_succ]
    refine wpAny_take (oi := { dst := _, op := _, type := _, pos := _, after := _, guard := _ }) (i := 16) (v := ?_) rfl (by kernel_rfl) (by kernel_rfl) (by kernel_rfl) (fun _ _ _ h => h) (Or.inl ⟨by rfl, ?hy⟩) ?_
    case hy => (intro w; go_simp; try with_reducible rfl)
    try simp only [Act.put, List.setIfInBounds_toArray, List.set_cons_zero, List.set_cons_succ]
    try simp only [Act.put, List.setIfInBounds_toArray, List.set_cons_zero, List.set_cons_succ]
    refine wpAny_take (oi := { dst := _, op := _, type := _, pos := _, after := _, guard := _ }) (i := 17) (v := ?_) rfl (by kernel_rfl) (by kernel_rfl) (by kernel_rfl) (fun _ _ _ h => h) (Or.inl ⟨by rfl, ?hy⟩) ?_
    case hy => (intro w; go_simp; try with_reducible rfl)
    try simp only [Act.put, List.setIfInBounds_toArray, List.set_cons_zero, List.set_cons_succ]
    try simp only [Act.put, List.setIfInBounds_toArray, List.set_cons_zero, List.set_cons_succ]
    refine wpAny_take (oi := { dst := _, op := _, type := _, pos := _, after := _, guard := _ }) (i := 18) (v := ?_) rfl (by kernel_rfl) (by kernel_rfl) (by kernel_rfl) (fun _ _ _ h => h) (Or.inl ⟨by rfl, ?hy⟩) ?_
    case hy => (intro w; go_simp; try with_reducible rfl)
    try simp only [Act.put, List.setIfInBounds_toArray, List.set_cons_zero, List.set_cons_succ]
    try simp only [Act.put, List.setIfInBounds_toArray, List.set_cons_zero, List.set_cons_succ]
    refine wpAny_take (oi := { dst := _, op := _, type := _, pos := _, after := _, guard := _ }) (i := 19) (v := ?_) rfl (by kernel_rfl) (by kernel_rfl) (by kernel_rfl) (fun _ _ _ h => h) (Or.inl ⟨by rfl, ?hy⟩) ?_
    case hy => (intro w; go_simp; try with_reducible rfl)
    try simp only [Act.put, List.setIfInBounds_toArray, List.set_cons_zero, List.set_cons_succ]
    refine wpAny_done (by kernel_rfl) ?_ _
    go_wp2_with (fail)
    go_must (refine hA.out.mono ?_)
    rintro e w3 ⟨rfl, hb3⟩
    have x3 : w3.cell? ⟨w.heap.size, 0, none⟩ = some (.int .i64 2) := (HBX.out.below' hb3).cell 0
    have hz3 := hb3.size
    go_wp2_with (fail)
    go_must (refine (containsNil_any _ _).mono ?_)
    rintro e w4 ⟨rfl, rfl⟩
    go_wp2_with (fail)
    go_must (refine (clear_any w3.heap.size d f _ (Blk.new _ _ _)).mono ?_)
    intro e w5 hc
    have HC := Lib.hid hc
    obtain ⟨rfl, _⟩ := hc
    go_wp2_with (fail)
    go_ret2
    exact hE.out w3 _ w5 w3.heap.size (HB.out.trans (hb3.mono (by simp))) rfl rfl _ HC.out

def BaseP (w : World) (e : Ending) (w' : World) : Prop :=
  ∃ d g f h sy nw, e = .returned (.tuple #[ptrV d, ptrV g, ptrV f, ptrV h, .bool true]) ∧ DevAt w' d 3000 2 sy nw ∧ Blk w' f 167 #[.slice none 0 0, .slice none 0 0, .map none] ∧ w.heap.size ≤ d ∧ w.heap.size ≤ f ∧ (∀ k, sy.ownBlock = some k → w.heap.size ≤ k) ∧ (∀ k, nw.ownBlock = some k → w.heap.size ≤ k) ∧ Below w.heap.size w w'

theorem devNew3 (w : World) : Calls Tryz.prog 50 #[.int .i64 3000] w fun e w' => e = .returned (.tuple #[ptrV w.heap.size, .int .i64 0]) ∧ DevAt w' w.heap.size 3000 0 (.slice none 0 0) (.slice none 0 0) ∧ Below w.heap.size w w' ∧ w'.heap.size = w.heap.size + 1 :=
  (devNew_any 3000 w (by omega) (Nat.le_refl _)).mono fun e w' ⟨h1, h2⟩ => ⟨h1, h2 ▸ DevAt.new 3000 w (Nat.le_refl _), h2 ▸ (Below.refl _ w).alloc (Nat.le_refl _) _, by rw [← h2]; simp⟩

theorem refNew3 (w : World) : Calls Tryz.prog 51 #[.int .i64 3000] w fun e w' => e = .returned (.tuple #[ptrV w.heap.size, .int .i64 0]) ∧ Blk w' w.heap.size 156 (refDev 3000) ∧ Below w.heap.size w w' ∧ w'.heap.size = w.heap.size + 1 :=
  (refNew_any 3000 w (by omega) (Nat.le_refl _)).mono fun e w' ⟨h1, h2⟩ => ⟨h1, h2 ▸ Blk.new _ _ _, h2 ▸ (Below.refl _ w).alloc (Nat.le_refl _) _, by rw [← h2]; simp⟩

theorem freeNew3 (w : World) : Calls Tryz.prog 54 #[.slice none 0 0] w fun e w' => e = .returned (ptrV w.heap.size) ∧ Blk w' w.heap.size 167 #[.slice none 0 0, .slice none 0 0, .map none] ∧ Below w.heap.size w w' ∧ w'.heap.size = w.heap.size + 1 :=
  (freeNew_any w).mono fun e w' ⟨h1, h2⟩ => ⟨h1, h2 ▸ Blk.new _ _ _, h2 ▸ (Below.refl _ w).alloc (Nat.le_refl _) _, by rw [← h2]; simp⟩

/-- What the parts of Base come to. -/
theorem base_end {w w1 w2 w3 w4 w5 w6 : World} {sy nw : Value} {T : TypeId} {V : Array Value} (a1 : DevAt w1 w.heap.size 3000 0 (.slice none 0 0) (.slice none 0 0)) (b1 : Below w.heap.size w w1) (z1 : w1.heap.size = w.heap.size + 1)
    (b2 : Below w1.heap.size w1 w2) (z2 : w2.heap.size = w1.heap.size + 1) (a2 : Blk w2 w1.heap.size 156 (refDev 3000))
    (a3 : DevAt w3 w.heap.size 3000 2 sy nw) (k3 : GrowK w.heap.size (.slice none 0 0) (.slice none 0 0) sy nw w2 w3) (k4 : Keeps (fun k => k = w1.heap.size) w3 w4) (a5 : Blk w5 w4.heap.size 167 #[.slice none 0 0, .slice none 0 0, .map none])
    (b5 : Below w4.heap.size w4 w5) (b6 : Below w5.heap.size w5 w6) :
    BaseP w (.returned (.tuple #[ptrV w.heap.size, ptrV w1.heap.size, ptrV w4.heap.size, ptrV w6.heap.size, .bool true])) (w6.alloc (.cells V T)) := by
  have hz3 := k3.keeps.size
  have hz4 := k4.size
  have hz5 := b5.size
  have hz6 := b6.size
  have c2 : Below w.heap.size w w2 := b1.trans (b2.mono (by omega))
  have c3 : Below w.heap.size w w3 := c2.trans (k3.keeps.below (by omega) (fun i hi e => by
    rcases e with e | e | e
    · omega
    · cases e
    · cases e))
  have c4 : Below w.heap.size w w4 := c3.trans (k4.below (by omega) (fun i hi e => by omega))
  have c5 : Below w.heap.size w w5 := c4.trans (b5.mono (by omega))
  have c6 : Below w.heap.size w w6 := c5.trans (b6.mono (by omega))
  have c7 : Below w.heap.size w (w6.alloc (.cells V T)) := c6.alloc (by omega) _
  have a2' : Blk w3 w1.heap.size 156 (refDev 3000) := a2.keeps k3.keeps (fun e => by
    rcases e with e | e | e
    · omega
    · cases e
    · cases e)
  have a4 : DevAt w4 w.heap.size 3000 2 sy nw := a3.keeps k4 (fun k hk e => by
    subst e
    rcases hk with e | e | e
    · omega
    · obtain ⟨cs, hr⟩ := a3.srow
      exact own_ne hr a2' (by decide) _ e rfl
    · obtain ⟨cs, hr⟩ := a3.nrow
      exact own_ne hr a2' (by decide) _ e rfl)
  have b46 : Below w4.heap.size w4 (w6.alloc (.cells V T)) := (b5.trans (b6.mono (by omega))).alloc (by omega) _
  have a6 : DevAt (w6.alloc (.cells V T)) w.heap.size 3000 2 sy nw := a4.keeps (S := fun _ => False) (Keeps.of_below b46) fun _ _ h => h
  refine ⟨w.heap.size, w1.heap.size, w4.heap.size, w6.heap.size, sy, nw, rfl, a6, (a5.below' b6).alloc _, Nat.le_refl _, by omega, fun k e => ?_, fun k e => ?_, c7⟩
  · rcases k3.sy k e with h | h
    · cases h
    · omega
  · rcases k3.nw k e with h | h
    · cases h
    · omega

set_option maxHeartbeats 2000000 in
set_option maxRecDepth 100000 in
theorem base_any (w : World) : Calls Tryz.prog 32 #[.int .i64 3000, .int .i64 2, .slice none 0 0] w (BaseP w) := by
  go_enter Tryz.func32, Tryz.ntmps32
  go_wp2_with (fail)
  go_must (refine (devNew3 w).mono ?_)
  rintro e w1 ⟨rfl, a1, b1, z1⟩
  have A1 := Lib.hid a1
  have B1 := Lib.hid b1
  have Z1 := Lib.hid z1
  clear a1 b1 z1
  go_wp2_with (fail)
  go_must (refine (refNew3 w1).mono ?_)
  rintro e w2 ⟨rfl, a2, b2, z2⟩
  have a1' : DevAt w2 w.heap.size 3000 0 (.slice none 0 0) (.slice none 0 0) := A1.out.keeps (S := fun _ => False) (Keeps.of_below b2) fun _ _ h => h
  have A2 := Lib.hid a2
  have B2 := Lib.hid b2
  have Z2 := Lib.hid z2
  have hG := Lib.hid (devTo_any w.heap.size 3000 0 2 _ _ w2 a1' (by omega) (by omega))
  clear a2 b2 z2 a1'
  go_wp2_with (fail)
  go_must (refine hG.out.mono ?_)
  rintro e w3 ⟨rfl, sy, nw, a3, k3⟩
  have hR := Lib.hid (refGrow_any (A2.out.keeps k3.keeps (fun e => by
    have := Z1.out
    rcases e with e | e | e
    · omega
    · cases e
    · cases e)))
  have A3 := Lib.hid a3
  have K3 := Lib.hid k3
  clear a3 k3 hG
  go_wp2_with (fail)
  go_must (refine hR.out.mono ?_)
  rintro e w4 ⟨rfl, k4⟩
  have K4 := Lib.hid k4
  clear k4 hR
  go_wp2_with (fail)
  go_must (refine (freeNew3 w4).mono ?_)
  rintro e w5 ⟨rfl, a5, b5, z5⟩
  have A5 := Lib.hid a5
  have B5 := Lib.hid b5
  clear a5 b5 z5
  go_wp2_with (fail)
  go_must (refine (refSorted_nil w5).mono ?_)
  rintro e w6 ⟨rfl, b6⟩
  have B6 := Lib.hid b6
  clear b6
  go_wp2_with (fail)
  refine bodyPost_ret (v := .tuple #[ptrV w.heap.size, ptrV w1.heap.size, ptrV w4.heap.size, ptrV w6.heap.size, .bool true]) (by simp [results, Tryz.results32, go_sem]) rfl ?_
  exact base_end A1.out B1.out Z1.out B2.out Z2.out A2.out A3.out K3.out K4.out A5.out B5.out B6.out

def TNewP (p : Nat) (c : Pc) (w : World) (e : Ending) (w' : World) : Prop :=
  ∃ root c', e = .returned (.tuple #[.int .i64 root, .int .i64 0]) ∧ PgOk w' p c' 3000 (updS (fun _ => none) root (some ⟨2, 0, []⟩)) 1 ∧ PgK p c c' w w'

theorem treeNew_any (p : Nat) (c : Pc) (w : World) (h : PgOk w p c 3000 (fun _ => none) 0) : Calls Tryz.prog 34 #[ptrV p] w (TNewP p c w) := by
  have hM := Lib.hid (make_any ⟨2, 0, []⟩ w h (by simp [Pg.ok]) (by omega))
  clear h
  go_enter Tryz.func34, Tryz.ntmps34
  go_wp2_with (fail)
  go_must (refine hM.out.mono ?_)
  rintro e w1 ⟨root, c', rfl, _, _, _, hp, hk⟩
  have HP := Lib.hid hp
  have HK := Lib.hid hk
  clear hp hk
  go_wp2_with (fail)
  go_ret2
  exact ⟨root, c', rfl, HP.out, HK.out⟩

def BeginP (w : World) (e : Ending) (w' : World) : Prop :=
  ∃ d f p c root, e = .returned (.tuple #[ptrV d, ptrV f, ptrV p, .int .i64 root, .bool true]) ∧ PgOk w' p c 3000 (updS (fun _ => none) root (some ⟨2, 0, []⟩)) 1 ∧ (∀ k, c.S p k → w.heap.size ≤ k) ∧ Below w.heap.size w w'

set_option maxHeartbeats 2000000 in
theorem begin_any (w : World) : Calls Tryz.prog 17 #[.int .i64 3000] w (BeginP w) := by
  go_enter Tryz.func17, Tryz.ntmps17
  go_wp2_with (fail)
  go_must (refine (base_any w).mono ?_)
  rintro e w1 ⟨d, g, f, h, sy, nw, rfl, hd, hf, d1, d2, d3, d4, b1⟩
  have hN := Lib.hid (pagerNew_any d f sy nw w1 hd hf)
  have B1 := Lib.hid b1
  clear hd hf b1
  go_wp2_with (fail)
  go_must (refine hN.out.mono ?_)
  rintro e w2 ⟨p, c, rfl, hp, hs, b2⟩
  have hT := Lib.hid (treeNew_any p c w2 hp)
  have hz1 := B1.out.size
  have HS := Lib.hid (show ∀ k, c.S p k → w.heap.size ≤ k from fun k hk => by
    rcases hs k hk with h | h | h | h | h
    · omega
    · omega
    · exact d3 k h
    · exact d4 k h
    · omega)
  have B2 := Lib.hid b2
  clear hp hs b2 hN
  go_wp2_with (fail)
  go_must (refine hT.out.mono ?_)
  rintro e w3 ⟨root, c', rfl, hp, hk⟩
  have HP := Lib.hid hp
  have HK := Lib.hid hk
  clear hp hk hT
  go_wp2_with (fail)
  refine bodyPost_ret (v := .tuple #[ptrV d, ptrV f, ptrV p, .int .i64 root, .bool true]) (by simp [results, Tryz.results17, go_sem]) rfl ?_
  have hz2 := B2.out.size
  refine ⟨d, f, p, c', root, rfl, HP.out, fun k hk => ?_, ?_⟩
  · rcases HK.out.sub k hk with h | h
    · exact HS.out k h
    · omega
  · exact (B1.out.trans (B2.out.mono hz1)).trans (HK.out.keeps.below (by omega) fun i hi e => by have := HS.out i e; omega)
end Go.Ev

namespace Go.Ev
open Go.Proofs Go.RowKit Go.Shelf

attribute [local go_sem] Oper.semAt_some

set_option maxRecDepth 100000 in
set_option maxHeartbeats 2000000 in
theorem backS1_in (F : Fence) (n : Nat) (hf : F.fn 133) (hro : F.round = none) (hn : 1 ≤ n) (l Bs b off cap : Nat) (st : List Bytes) (hreach : st.length ≤ 100000) (J : Nat → World → Prop)
    (hY : ∀ (k : Nat) (x : Fin st.length) W, (backs st.length)[k]? = some x → J k W → YieldAt F (n - 1) Tryz.prog l #[.int .i64 (x.1 : Int), strV st[x.1]] W fun e W' => e = .returned (.bool true) ∧ J (k + 1) W' ∧ KB Bs b W W')
    (W : World) (hBs : W.cell? ⟨Bs, 0, none⟩ = some (.slice (some ⟨b, off, none⟩) st.length cap)) (hc : ∀ j u, (strsV st)[j]? = some u → W.cell? ⟨b, off + j, none⟩ = some u) (h0 : J 0 W) :
    CallsIn F n Tryz.prog 133 #[.func (.yield l) #[] #[], .pointer (some ⟨Bs, 0, none⟩)] W fun e W' => (∃ v, e = .returned v) ∧ J st.length W' := by
  refine callsIn_of_wp Tryz.func133 rfl hf ?_ hro
  simp only [Tryz.ntmps133, List.size_toArray, List.length_cons, List.length_nil, Nat.reduceAdd, Nat.reduceSub, Array.replicate_succ, Array.replicate_zero, List.push_toArray, List.append_toArray, List.nil_append, List.cons_append]
  gi_wp2
  gi_loopw [3] (fun i wr => ∃ k : Nat, k ≤ st.length ∧ i = .int .i64 ((st.length : Int) - 1 - k) ∧ J k wr ∧ KB Bs b W wr)
    (fun i _ => (Go.RowKit.intOf i + 1).toNat)
  case atStart => exact ⟨0, Nat.zero_le _, by simp, h0, KB.refl _ _ _⟩
  case round =>
    obtain ⟨k, hk, rfl, hJs, hnx⟩ := hrel
    have hBx : wr.cell? ⟨Bs, 0, none⟩ = some (.slice (some ⟨b, off, none⟩) st.length cap) := (World.cell?_of_block hnx.1).trans hBs
    by_cases hlt : k < st.length
    · obtain ⟨m, hm⟩ : ∃ m, m = st.length - 1 - k := ⟨_, rfl⟩
      have hmI : (st.length : Int) - 1 - (k : Int) = (m : Int) := by omega
      have hml : m < st.length := by omega
      obtain ⟨fn, tmps, assign, body, hy, hR⟩ := hY k ⟨m, hml⟩ wr (by rw [backs_at _ _ hlt]; congr; exact hm.symm) hJs
      have q0 : wr.cell? ⟨b, off + m, none⟩ = some (strV st[m]) := (World.cell?_of_block hnx.2).trans (hc m _ (by simp [strsV, hml]))
      dsimp only at hy
      rw [hmI]
      have HM := Lib.hid hm
      clear hY hm
      have hm0 : (0 : Int) ≤ (m : Int) := by omega
      have hmlt : (m : Int) < (st.length : Int) := by omega
      gi_wp2
      refine hR.mono ?_
      rintro e W3 ⟨rfl, hJ3, hk3⟩
      gi_wp2
      go_roundw
      case rel => exact ⟨k + 1, by omega, by have := HM.out; congr 1; omega, hJ3, hnx.trans hk3⟩
      case measure => simp [Go.RowKit.intOf]
    · obtain rfl : k = st.length := by omega
      gi_wp2
      go_end0
      exact ⟨⟨_, rfl⟩, hJs⟩

set_option maxRecDepth 100000 in
set_option maxHeartbeats 1000000 in
theorem backS1_nil_in (F : Fence) (n : Nat) (hf : F.fn 133) (hro : F.round = none) (l Bs c : Nat) (A : Option Addr) (J : Nat → World → Prop) (W : World) (hBs : W.cell? ⟨Bs, 0, none⟩ = some (.slice A 0 c)) (h0 : J 0 W) :
    CallsIn F n Tryz.prog 133 #[.func (.yield l) #[] #[], .pointer (some ⟨Bs, 0, none⟩)] W fun e W' => (∃ v, e = .returned v) ∧ J 0 W' := by
  refine callsIn_of_wp Tryz.func133 rfl hf ?_ hro
  simp only [Tryz.ntmps133, List.size_toArray, List.length_cons, List.length_nil, Nat.reduceAdd, Nat.reduceSub, Array.replicate_succ, Array.replicate_zero, List.push_toArray, List.append_toArray, List.nil_append, List.cons_append]
  gi_wp2
  gi_loopw [3] (fun i wr => i = .int .i64 (-1) ∧ J 0 wr) (fun _ _ => 0)
  case atStart => exact ⟨rfl, h0⟩
  case round =>
    obtain ⟨rfl, hJs⟩ := hrel
    gi_wp2
    go_end0
    exact ⟨⟨_, rfl⟩, hJs⟩

/-- **slices.Backward's value, over a row of strings.** -/
theorem backS_each (F : Fence) (n : Nat) (hf : F.fn 133) (hro : F.round = none) (hn : 1 ≤ n) (Bs b off cap : Nat) (A : Option Addr) (st : List Bytes) (hreach : st.length ≤ 100000) (w : World) (hBl : Bs < w.heap.size)
    (hBs : w.cell? ⟨Bs, 0, none⟩ = some (.slice A st.length cap)) (hA : 0 < st.length → A = some ⟨b, off, none⟩) (hbl : 0 < st.length → b < w.heap.size) (hc : ∀ j u, (strsV st)[j]? = some u → w.cell? ⟨b, off + j, none⟩ = some u) :
    Each F n Tryz.prog 133 #[.pointer (some ⟨Bs, 0, none⟩)] (fun x : Fin st.length => #[.int .i64 (x.1 : Int), strV st[x.1]]) (KB Bs b) (backs st.length) w := fun l J W hW hY h0 => by
  have hBs' := (hW.cell (p := ⟨Bs, 0, none⟩) hBl).trans hBs
  rw [backs_len]
  cases st with
  | nil => exact backS1_nil_in F n hf hro l Bs cap A J W hBs' h0
  | cons s st =>
    rw [hA (by simp)] at hBs'
    exact backS1_in F n hf hro hn l Bs b off cap (s :: st) hreach J hY W hBs' (fun j u hu => (hW.cell (p := ⟨b, off + j, none⟩) (hbl (by simp))).trans (hc j u hu)) h0

set_option maxHeartbeats 1000000 in
theorem backwardS_in (F : Fence) (n : Nat) (hf : F.fn 93) (hro : F.round = none) (a : Option Addr) (len cap : Nat) (w : World) :
    CallsIn F n Tryz.prog 93 #[.slice a len cap] w fun e w' => e = .returned (.func (.func 133) #[] #[.pointer (some ⟨w.heap.size, 0, none⟩)]) ∧ w' = w.alloc (.cells #[.slice a len cap] 150) := by
  refine callsIn_of_wp Tryz.func93 rfl hf ?_ hro
  simp only [Tryz.ntmps93, List.size_toArray, List.length_cons, List.length_nil, Nat.reduceAdd, Nat.reduceSub, Array.replicate_succ, Array.replicate_zero, List.push_toArray, List.append_toArray, List.nil_append, List.cons_append]
  gi_wp2
  go_ret
  exact ⟨rfl, rfl⟩
end Go.Ev

namespace Go.Ev

theorem Seg.get {T : Int → Bytes → Option Bytes → List Pair → List Int → Prop} : ∀ {L : List Child} {hi : Option Bytes} {ps : List Pair} {ids : List Int} {i : Nat} {y : Child}, Seg T L hi ps ids → L[i]? = some y → ∃ h p q, T y.page y.key h p q
  | [], _, _, _, _, _, _, h => by simp at h
  | c :: L, hi, ps, ids, 0, y, ⟨p1, p2, i1, i2, _, _, h3, _⟩, h => by
    simp only [List.getElem?_cons_zero, Option.some.injEq] at h
    subst h
    exact ⟨_, _, _, h3⟩
  | c :: L, hi, ps, ids, i + 1, y, ⟨p1, p2, i1, i2, _, _, _, h4⟩, h => Seg.get h4 (by simpa using h)

theorem headKey_page (k : Bytes) : ∀ (L : List Child) (i : Nat) (x : Child), (headKey k L)[i]? = some x → ∃ y, L[i]? = some y ∧ y.page = x.page
  | [], i, x, h => by simp [headKey] at h
  | c :: L, 0, x, h => by
    simp only [headKey, List.getElem?_cons_zero, Option.some.injEq] at h
    subst h
    exact ⟨c, rfl, rfl⟩
  | c :: L, i + 1, x, h => ⟨x, by simpa [headKey] using h, rfl⟩

theorem findC_lt {k : Bytes} {c : Child} {L : List Child} : findC k (c :: L) < (c :: L).length := by
  have := below_le k L
  unfold findC
  simp only [List.tail_cons, List.length_cons]
  omega

theorem TreeAt.way {M : Store} {d : Nat} (key : Bytes) : ∀ {k lev : Nat} {id : Int} {lo : Bytes} {hi : Option Bytes} {ps : List Pair} {ids : List Int}, TreeAt M d k id lo hi ps ids → (2 ≤ d ∨ 0 < lev) → lev + k < 30 → (ps ≠ [] ∨ lev = 0) →
    ∃ P lid items, Way M key lev id P lid items ∧ P.length = k
  | 0, lev, id, lo, hi, ps, ids, ⟨items, i2, h1, h2, h3, h4, h5, h6⟩, hd, hl, hp => by
    refine ⟨[], id, items, .leaf h1 h2 h3 ?_ (by omega), rfl⟩
    rcases hp with hp | hp
    · refine .inl fun e => hp ?_
      subst e
      exact h4.1
    · exact .inr hp
  | k + 1, lev, id, lo, hi, ps, ids, ⟨c, L, i2, h1, h2, h3, h4, h5, h6, h7⟩, hd, hl, hp => by
    have hlt : findC key (headKey [] (c :: L)) < (headKey [] (c :: L)).length := findC_lt
    obtain ⟨x, hx⟩ : ∃ x, (headKey [] (c :: L))[findC key (headKey [] (c :: L))]? = some x := ⟨_, List.getElem?_eq_getElem hlt⟩
    obtain ⟨y, hy, hpg⟩ := headKey_page [] _ _ _ hx
    obtain ⟨h', p', q', ht, hne⟩ := Seg.get h6 hy
    rw [hpg] at ht
    obtain ⟨P, lid, items, hw, hlen⟩ := TreeAt.way (lev := lev + 1) key ht (.inr (by omega)) (by omega) (.inl hne)
    refine ⟨_, lid, items, .branch h1 h2 h3 ?_ (by omega) hx hw, by simp [hlen]⟩
    rcases hd with hd | hd
    · refine .inl ?_
      simp only [headKey, List.length_cons]
      omega
    · exact .inr hd
end Go.Ev
