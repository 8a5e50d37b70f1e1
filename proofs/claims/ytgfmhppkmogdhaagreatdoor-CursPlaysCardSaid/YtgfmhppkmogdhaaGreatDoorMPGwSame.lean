/-
  A device, free pages and a pager are made anew. A pager of a first transaction is made anew; law 11's Begin. A pager of a first transaction is made anew; law 11's Begin. A tree has a way down for every key. A book of lists of pairs: marks; a list is kept with a copy. Are two lists of pairs alike?
-/
import Derived.Test.YtgfmhppkmogdhaaGreatDoorMPGwSeal
import Derived.Test.YtgfmhppkmogdhaaGreatDoorMPGwMake
import Derived.Test.YtgfmhppkmogdhaaGreatDoorMPGvFind
import Derived.Carry
import Derived.Test.YtgfmhppkmogdhaaGreatDoorMPGvAny2
import Derived.Test.YtgfmhppkmogdhaaGreatDoorMPGvCurs
import Derived.Test.YtgfmhppkmogdhaaGreatDoorMPGwWork
import Derived.Test.YtgfmhppkmogdhaaGreatDoorMPGwOps2
import Derived.Test.YtgfmhppkmogdhaaGreatDoorMPGwPick
set_option linter.unusedVariables false
set_option linter.unusedSimpArgs false
set_option linter.unusedVariables false
set_option linter.unusedSimpArgs false
namespace Go.Ev
open Go.Proofs Go.RowKit

theorem devNew_any (most : Nat) (w : World) (h1 : 1 ≤ most) (h2 : most ≤ 3000) :
    Calls Tryz.prog 109 #[.int .i64 most] w fun e w' => e = .returned (.tuple #[ptrV w.heap.size, .int .i64 0]) ∧
      w.alloc (.cells #[.int .i64 most, .bool true, .bool false, .int .i64 0, .slice none 0 0, .slice none 0 0, .chan none] 260) = w' := by
  have g1 : ¬ (most : Int) < 1 := by omega
  have g2 : ¬ (3000 : Int) < (most : Int) := by omega
  go_enter Tryz.func109, Tryz.ntmps109
  go_wp2
  go_ret2
  exact ⟨rfl, rfl⟩

theorem DevAt.new (most : Nat) (w : World) (h2 : most ≤ 3000) :
    DevAt (w.alloc (.cells #[.int .i64 most, .bool true, .bool false, .int .i64 0, .slice none 0 0, .slice none 0 0, .chan none] 260)) w.heap.size most 0 (.slice none 0 0) (.slice none 0 0) :=
  ⟨Blk.new _ _ _, ⟨_, World.ownsRow_nil _ _ _ _⟩, ⟨_, World.ownsRow_nil _ _ _ _⟩, fun k h => (by cases h), ⟨by omega, by omega⟩⟩

theorem refNew_any (most : Nat) (w : World) (h1 : 1 ≤ most) (h2 : most ≤ 3000) :
    Calls Tryz.prog 110 #[.int .i64 most] w fun e w' => e = .returned (.tuple #[ptrV w.heap.size, .int .i64 0]) ∧ w.alloc (.cells (refDev most) 263) = w' := by
  have g1 : ¬ (most : Int) < 1 := by omega
  have g2 : ¬ (3000 : Int) < (most : Int) := by omega
  go_enter Tryz.func110, Tryz.ntmps110
  go_wp2
  go_ret2
  exact ⟨rfl, rfl⟩

theorem freePut_any (b : Nat) (w : World) :
    Calls Tryz.prog 222 #[ptrV b, .slice none 0 0] w fun e w' => e = .returned (.tuple #[]) ∧ w' = w := by
  go_enter Tryz.func222, Tryz.ntmps222
  go_wp2
  go_loopg [10] 0 (fun gk s10 wr => s10 = .int .i64 0 ∧ wr = w)
  case atStart => exact ⟨rfl, rfl⟩
  case round =>
    obtain ⟨rfl, rfl⟩ := hrel
    go_wp2_with (fail)
    refine bodyPost_end (results_none rfl _ _ _) rfl ?_
    exact ⟨rfl, rfl⟩

theorem freeNew_any (w : World) :
    Calls Tryz.prog 113 #[.slice none 0 0] w fun e w' => e = .returned (ptrV w.heap.size) ∧ w.alloc (.cells #[.slice none 0 0, .slice none 0 0, .map none] 274) = w' := by
  have hB : ∀ W : World, Calls Tryz.prog 173 #[ptrV w.heap.size, .slice none 0 0] W fun e w' => e = .returned (.tuple #[]) ∧ w' = W := by
    intro W
    go_enter Tryz.func173, Tryz.ntmps173
    go_wp2_with (fail)
    go_must (refine (freePut_any _ _).mono ?_)
    rintro e w1 ⟨rfl, rfl⟩
    go_wp2
    refine bodyPost_end (results_none rfl _ _ _) rfl ?_
    exact ⟨rfl, rfl⟩
  go_enter Tryz.func113, Tryz.ntmps113
  go_wp2_with (fail)
  go_must (refine (hB _).mono ?_)
  rintro e w1 ⟨rfl, rfl⟩
  go_wp2
  go_ret
  exact ⟨rfl, rfl⟩
end Go.Ev

set_option linter.unusedVariables false
set_option linter.unusedSimpArgs false
namespace Go.Ev
open Go.Proofs Go.RowKit

set_option maxRecDepth 100000 in
theorem cloneNil_any (w : World) : Calls Tryz.prog 224 #[.slice none 0 0] w fun e w' => e = .returned (.slice none 0 0) ∧ w = w' := by
  have q22 : ∀ (w : World) (a : Option Addr) (n c n' c' : Nat), (binOp .eql 89 (.slice a n c) (.slice none n' c')).run Tryz.prog w = .ok (.bool a.isNone) w := fun w a n c n' c' => Lib.run_eql_slice_nil w _ 3 a n c n' c' Tryz.underlying89
  go_enter Tryz.func224, Tryz.ntmps224
  go_wp2
  go_ret
  exact ⟨rfl, rfl⟩

theorem heapInit_nil (b : Nat) (w : World) (h : w.cell? ⟨b, 0, none⟩ = some (.slice none 0 0)) :
    Calls Tryz.prog 225 #[.iface 329 (.pointer (some ⟨b, 0, none⟩))] w fun e w' => e = .returned (.tuple #[]) ∧ w = w' := by
  have hm := m_len b _ w h
  go_enter Tryz.func225, Tryz.ntmps225
  go_wp2_with (fail)
  go_must (refine (lenN_any _ _ _ _).mono ?_)
  rintro e w2 ⟨rfl, rfl⟩
  go_wp2_with (fail)
  go_loopg [3] 0 (fun gk s3 wr => s3 = .int .i64 (-1) ∧ wr = w2)
  case atStart => exact ⟨rfl, rfl⟩
  case round =>
    obtain ⟨rfl, rfl⟩ := hrel
    go_wp2_with (fail)
    refine bodyPost_end (results_none rfl _ _ _) rfl ?_
    exact ⟨rfl, rfl⟩

theorem pileNew_any (w : World) :
    Calls Tryz.prog 177 #[.slice none 0 0] w fun e w' => e = .returned (ptrV w.heap.size) ∧ w.alloc (.cells #[.slice none 0 0] 270) = w' := by
  have hb : Blk (w.alloc (.cells #[.slice none 0 0] 270)) w.heap.size 270 #[.slice none 0 0] := Blk.new _ _ _
  have hI := Lib.hid (heapInit_nil w.heap.size _ (hb.cell 0))
  clear hb
  go_enter Tryz.func177, Tryz.ntmps177
  go_wp2_with (fail)
  go_must (refine (cloneNil_any _).mono ?_)
  rintro e w1 ⟨rfl, rfl⟩
  go_wp2_with (fail)
  go_must (refine hI.out.mono ?_)
  rintro e w2 ⟨rfl, rfl⟩
  go_wp2
  go_ret
  exact ⟨rfl, rfl⟩

/-- A pager without its maps and its pile. -/
def pg0 (d f : Nat) : Array Value := #[ptrV d, ptrV f, .int .i64 2, .int .i64 2, .int .i64 1, .map none, .map none, .map none, .pointer none]

def ClearP (p d f : Nat) (w : World) (e : Ending) (w' : World) : Prop :=
  e = .returned (.tuple #[]) ∧ ∃ mb db wb sb, Blk w' p 169 #[ptrV d, ptrV f, .int .i64 2, .int .i64 2, .int .i64 1, .map (some mb), .map (some db), .map (some wb), ptrV sb] ∧ MapI w' mb [] 0 ∧ MapI w' db [] 0 ∧ MapI w' wb [] 0 ∧ Pl w' sb (.slice none 0 0) [] ∧
    w.heap.size ≤ mb ∧ mb < db ∧ db < wb ∧ wb < sb ∧ Keeps (fun k => k = p) w w'

theorem MapI.newM (w : World) : MapI (w.alloc (.map #[] 0)) w.heap.size [] 0 := heap_alloc_new w _

theorem MapI.allocM {w : World} {b c : Nat} {l : List Ent} (h : MapI w b l c) (o : Obj) : MapI (w.alloc o) b l c := h.keeps (S := fun _ => False) (Keeps.of_below ((Below.refl _ w).alloc (Nat.le_refl _) o)) fun h => h
theorem MapI.setM {w : World} {b c : Nat} {l : List Ent} (h : MapI w b l c) {q : Addr} (hq : b ≠ q.block) (u : Value) : MapI (w.setCell q u) b l c := h.keeps (S := fun k => k = q.block) ((Keeps.refl (fun k => k = q.block) w).setCell (fun _ => rfl) u) hq

theorem pl_new (w : World) : Pl (w.alloc (.cells #[.slice none 0 0] 270)) w.heap.size (.slice none 0 0) [] := by
  have hb : Blk (w.alloc (.cells #[.slice none 0 0] 270)) w.heap.size 270 #[.slice none 0 0] := Blk.new _ _ _
  exact ⟨hb.cell 0, hb.frozen 0, hb.lt, World.ownsRow_nil _ _ _ _, by simp [Value.ownBlock]⟩

theorem clear_end {p d f : Nat} {w w1 w2 w3 w4 : World} (h : Blk w p 169 (pg0 d f)) (e1 : w.alloc (.map #[] 0) = w1) (e2 : w1.alloc (.map #[] 0) = w2) (e3 : w2.alloc (.map #[] 0) = w3) (e4 : w3.alloc (.cells #[.slice none 0 0] 270) = w4) :
    ClearP p d f w (.returned (.tuple #[])) ((((w4.setCell ⟨p, 5, none⟩ (.map (some w.heap.size))).setCell ⟨p, 6, none⟩ (.map (some w1.heap.size))).setCell ⟨p, 7, none⟩ (.map (some w2.heap.size))).setCell ⟨p, 8, none⟩ (ptrV w3.heap.size)) := by
  have hp := h.lt
  have z1 : w1.heap.size = w.heap.size + 1 := by subst e1; simp
  have z2 : w2.heap.size = w.heap.size + 2 := by subst e2; simp [z1]
  have z3 : w3.heap.size = w.heap.size + 3 := by subst e3; simp [z2]
  have hb : Blk w4 p 169 (pg0 d f) := by subst e4 e3 e2 e1; exact (((h.alloc _).alloc _).alloc _).alloc _
  have K : Keeps (fun k => k = p) w4 ((((w4.setCell ⟨p, 5, none⟩ (.map (some w.heap.size))).setCell ⟨p, 6, none⟩ (.map (some w1.heap.size))).setCell ⟨p, 7, none⟩ (.map (some w2.heap.size))).setCell ⟨p, 8, none⟩ (ptrV w3.heap.size)) :=
    ((((Keeps.refl (fun k => k = p) w4).setCell (p := ⟨p, 5, none⟩) (fun _ => rfl) _).setCell (p := ⟨p, 6, none⟩) (fun _ => rfl) _).setCell (p := ⟨p, 7, none⟩) (fun _ => rfl) _).setCell (p := ⟨p, 8, none⟩) (fun _ => rfl) _
  have K0 : Keeps (fun k => k = p) w w4 := by subst e4 e3 e2 e1; exact ((((Keeps.refl _ w).alloc _).alloc _).alloc _).alloc _
  have m1 : MapI w4 w.heap.size [] 0 := by subst e4 e3 e2 e1; exact (((MapI.newM w).allocM _).allocM _).allocM _
  have m2 : MapI w4 w1.heap.size [] 0 := by subst e4 e3 e2; exact ((MapI.newM w1).allocM _).allocM _
  have m3 : MapI w4 w2.heap.size [] 0 := by subst e4 e3; exact (MapI.newM w2).allocM _
  have m4 : Pl w4 w3.heap.size (.slice none 0 0) [] := by subst e4; exact pl_new w3
  refine ⟨rfl, w.heap.size, w1.heap.size, w2.heap.size, w3.heap.size, ?_, m1.keeps K (by omega), m2.keeps K (by omega), m3.keeps K (by omega), m4.keeps K (by omega) (fun k e => by cases e), by omega, by omega, by omega, by omega, K0.trans K fun _ _ e => e⟩
  exact (((hb.set 5 _).set 6 _).set 7 _).set 8 _

set_option maxHeartbeats 1000000 in
theorem clear_any (p d f : Nat) (w : World) (h : Blk w p 169 (pg0 d f)) : Calls Tryz.prog 119 #[ptrV p] w (ClearP p d f w) := by
  have hp := h.lt
  obtain ⟨w1, e1⟩ : ∃ w1, w.alloc (.map #[] 0) = w1 := ⟨_, rfl⟩
  obtain ⟨w2, e2⟩ : ∃ w2, w1.alloc (.map #[] 0) = w2 := ⟨_, rfl⟩
  obtain ⟨w3, e3⟩ : ∃ w3, w2.alloc (.map #[] 0) = w3 := ⟨_, rfl⟩
  obtain ⟨w4, e4⟩ : ∃ w4, w3.alloc (.cells #[.slice none 0 0] 270) = w4 := ⟨_, rfl⟩
  have hb : Blk w4 p 169 (pg0 d f) := by subst e4 e3 e2 e1; exact (((h.alloc _).alloc _).alloc _).alloc _
  have HE := Lib.hid (clear_end h e1 e2 e3 e4)
  have f5 := hb.frozen 5
  have f6 := hb.frozen 6
  have f7 := hb.frozen 7
  have f8 := hb.frozen 8
  have c5 : w4.cell? ⟨p, 5, none⟩ = some (.map none) := hb.cell 5
  have c6 : w4.cell? ⟨p, 6, none⟩ = some (.map none) := hb.cell 6
  have c7 : w4.cell? ⟨p, 7, none⟩ = some (.map none) := hb.cell 7
  have c8 : w4.cell? ⟨p, 8, none⟩ = some (.pointer none) := hb.cell 8
  have hN := Lib.hid (pileNew_any w3)
  rw [e4] at hN
  subst e1 e2 e3
  clear e4 hb h
  have hMM : ∀ (t : TypeId) (W : World), (Instr.makeMap t none).run Tryz.prog W = .ok (.map (some W.heap.size)) (W.alloc (.map #[] 0)) := fun t W => run_makeMap t W
  go_enter Tryz.func119, Tryz.ntmps119
  go_wp2_with (fail)
  go_must (refine hN.out.mono ?_)
  rintro e w5 ⟨rfl, rfl⟩
  go_wp2_with (fail)
  go_end0
  have hE := HE.out
  simp only [World.size_alloc] at hE
  exact hE

set_option maxRecDepth 100000 in
theorem listNil_any (f : Nat) (w : World) (h : w.cell? ⟨f, 0, none⟩ = some (.slice none 0 0)) :
    Calls Tryz.prog 176 #[ptrV f] w fun e w' => e = .returned (.slice none 0 0) ∧ Below w.heap.size w w' := by
  go_enter Tryz.func176, Tryz.ntmps176
  have hV : Calls Tryz.prog 223 #[.slice none 0 0] w fun e w' => e = .returned (.func (.func 269) #[] #[.pointer (some ⟨w.heap.size, 0, none⟩)]) ∧ w.alloc (.cells #[.slice none 0 0] 268) = w' := by
    go_enter Tryz.func223, Tryz.ntmps223
    go_wp2
    go_ret
    exact ⟨rfl, rfl⟩
  go_wp2_with (fail)
  go_must (refine hV.mono ?_)
  rintro e w1 ⟨rfl, rfl⟩
  go_wp2_with (fail)
  go_must (refine (sorted_nil (Blk.new _ _ _)).mono ?_)
  rintro e w2 ⟨rfl, hk⟩
  go_wp2_with (fail)
  go_ret
  refine ⟨rfl, ((Below.refl _ w).alloc (Nat.le_refl _) _).trans (hk.below (by simp) fun i hi e => by omega)⟩

set_option maxRecDepth 100000 in
set_option maxHeartbeats 2000000 in
theorem freeAll_any (f : Nat) (w : World) (h : Blk w f 274 #[.slice none 0 0, .slice none 0 0, .map none]) :
    Calls Tryz.prog 117 #[ptrV f] w fun e w' => e = .returned (.slice none 0 0) ∧ Below w.heap.size w w' := by
  have hL := Lib.hid (listNil_any f w (h.cell 0))
  have hlt := h.lt
  have g1 : w.cell? ⟨f, 1, none⟩ = some (.slice none 0 0) := h.cell 1
  clear h
  go_enter Tryz.func117, Tryz.ntmps117
  go_wp2_with (fail)
  go_must (refine hL.out.mono ?_)
  rintro e w1 ⟨rfl, hb⟩
  have g1' : w1.cell? ⟨f, 1, none⟩ = some (.slice none 0 0) := (hb.cell (p := ⟨f, 1, none⟩) hlt).trans g1
  go_wp2_with (fail)
  go_loopg [3, 17] 0 (fun gk s3 s17 wr => s3 = .slice none 0 0 ∧ s17 = .int .i64 0 ∧ wr = w1)
  case atStart => exact ⟨rfl, rfl, rfl⟩
  case round =>
    obtain ⟨rfl, rfl, rfl⟩ := hrel
    go_wp2_with (fail)
    go_must (refine (sort_nil _).mono ?_)
    rintro e w2 ⟨rfl, hb2⟩
    go_wp2_with (fail)
    go_ret
    exact ⟨rfl, hb.trans (hb2.mono hb.size)⟩

set_option maxRecDepth 100000 in
theorem indexNil_any (F : Value) (w : World) : Calls Tryz.prog 175 #[.slice none 0 0, F] w fun e w' => e = .returned (.int .i64 (-1)) ∧ w = w' := by
  go_enter Tryz.func175, Tryz.ntmps175
  go_wp2_with (fail)
  go_loopg [8] 0 (fun gk s8 wr => s8 = .int .i64 0 ∧ wr = w)
  case atStart => exact ⟨rfl, rfl⟩
  case round =>
    obtain ⟨rfl, rfl⟩ := hrel
    go_wp2_with (fail)
    go_ret
    exact ⟨rfl, rfl⟩

set_option maxRecDepth 100000 in
theorem containsNil_any (F : Value) (w : World) : Calls Tryz.prog 116 #[.slice none 0 0, F] w fun e w' => e = .returned (.bool false) ∧ w = w' := by
  go_enter Tryz.func116, Tryz.ntmps116
  go_wp2_with (fail)
  go_must (refine (indexNil_any _ _).mono ?_)
  rintro e w1 ⟨rfl, rfl⟩
  go_wp2
  go_ret
  exact ⟨rfl, rfl⟩
end Go.Ev

set_option linter.unusedVariables false
set_option linter.unusedSimpArgs false
namespace Go.Ev
open Go.Proofs Go.RowKit

theorem pgInv_new : PgInv 2 [] [] [] := by
  refine ⟨List.nodup_nil, List.nodup_nil, List.nodup_nil, fun k => Iff.rfl, fun k => ⟨fun h => by omega, fun h => by rcases h with h | h <;> cases h⟩, (fun k h => by cases h), (fun k v h => by cases h), Nat.le_refl _, (fun k v h => by cases h)⟩

theorem pages_new : Pages [] (fun _ => none) := fun _ => rfl

theorem pgOk_new {m : Nat} (hm : 4 ≤ m ∧ m ≤ 3000) {w : World} {p d f mb db wb sb B : Nat} {sy nw : Value} (h : Blk w p 169 #[ptrV d, ptrV f, .int .i64 2, .int .i64 2, .int .i64 1, .map (some mb), .map (some db), .map (some wb), ptrV sb])
    (hf : Blk w f 274 #[.slice none 0 0, .slice none 0 0, .map none]) (hd : DevAt w d m 2 sy nw) (m1 : MapI w mb [] 0) (m2 : MapI w db [] 0) (m3 : MapI w wb [] 0) (hs : Pl w sb (.slice none 0 0) [])
    (hdB : d < B) (hfB : f < B) (hsy : ∀ k, sy.ownBlock = some k → k < B) (hnw : ∀ k, nw.ownBlock = some k → k < B) (hp : B ≤ p) (h1 : p < mb) (h2 : mb < db) (h3 : db < wb) (h4 : wb < sb) :
    PgOk w p ⟨d, f, mb, db, wb, sb, .slice none 0 0, sy, nw⟩ m (fun _ => none) 0 := by
  have hdf : d ≠ f := by
    rintro rfl
    have := (hd.blk.eq hf).1
    revert this
    decide
  have hsyd : ∀ k, sy.ownBlock = some k → k ≠ d ∧ k ≠ f := fun k e => by
    obtain ⟨cs, hr⟩ := hd.srow
    exact ⟨own_ne hr hd.blk (by decide) k e, own_ne hr hf (by decide) k e⟩
  have hnwd : ∀ k, nw.ownBlock = some k → k ≠ d ∧ k ≠ f := fun k e => by
    obtain ⟨cs, hr⟩ := hd.nrow
    exact ⟨own_ne hr hd.blk (by decide) k e, own_ne hr hf (by decide) k e⟩
  refine ⟨2, [], [], 0, 0, 0, [], ⟨h, hf, hd, m1, m2, m3, hs, ?_, ?_, ?_, ?_, Nat.le_refl _, by omega⟩, pgInv_new, pages_new, rfl⟩
  · simp only [Pc.ids, List.nodup_cons, List.mem_cons, List.not_mem_nil, or_false, not_or, List.nodup_nil, not_false_eq_true, and_true]
    refine ⟨⟨?_, ?_, ?_, ?_, ?_, ?_⟩, ⟨hdf, ?_, ?_, ?_, ?_⟩, ⟨?_, ?_, ?_, ?_⟩, ⟨?_, ?_, ?_⟩, ⟨?_, ?_⟩, ?_⟩ <;> omega
  · intro k e; cases e
  · intro k e hm
    have a := hsyd k e
    have b := hsy k e
    simp only [Pc.ids, List.mem_cons, List.not_mem_nil, or_false] at hm
    rcases hm with hm | hm | hm | hm | hm | hm | hm <;> omega
  · intro k e hm
    have a := hnwd k e
    have b := hnw k e
    simp only [Pc.ids, List.mem_cons, List.not_mem_nil, or_false] at hm
    rcases hm with hm | hm | hm | hm | hm | hm | hm <;> omega

def PNewP (m d f : Nat) (sy nw : Value) (w : World) (e : Ending) (w' : World) : Prop :=
  ∃ p c, e = .returned (.tuple #[ptrV p, .int .i64 0]) ∧ PgOk w' p c m (fun _ => none) 0 ∧ (∀ k, c.S p k → k = d ∨ k = f ∨ sy.ownBlock = some k ∨ nw.ownBlock = some k ∨ w.heap.size ≤ k) ∧ Below w.heap.size w w'

theorem pnew_end {m : Nat} (hm : 4 ≤ m ∧ m ≤ 3000) {d f p : Nat} {sy nw : Value} {w w1 w2 w3 : World} (hd : DevAt w d m 2 sy nw) (hf : Blk w f 274 #[.slice none 0 0, .slice none 0 0, .map none]) (h1 : Below w.heap.size w w1) (hp : p = w1.heap.size) (e2 : w1.alloc (.cells (pg0 d f) 169) = w2) {e : Ending} (hc : ClearP p d f w2 e w3) :
    PNewP m d f sy nw w (.returned (.tuple #[ptrV p, .int .i64 0])) w3 := by
  have hb2 : Below w.heap.size w w2 := by subst e2; exact h1.alloc h1.size _
  have z2 : w2.heap.size = w1.heap.size + 1 := by subst e2; simp
  have hz := h1.size
  obtain ⟨_, mb, db, wb, sb, k1, k2, k3, k4, k5, k6, k7, k8, k9, kK⟩ := hc
  have hb3 : Below w.heap.size w w3 := hb2.trans (kK.below (by omega) (fun i hi e => by omega))
  have hd3 : DevAt w3 d m 2 sy nw := hd.keeps (S := fun _ => False) (Keeps.of_below hb3) fun _ _ h => h
  have hf3 := hf.below' hb3
  refine ⟨p, _, rfl, pgOk_new hm (B := w.heap.size) k1 hf3 hd3 k2 k3 k4 k5 hd.blk.lt hf.lt ?_ ?_ (by omega) (by omega) k7 k8 k9, ?_, hb3⟩
  · intro k e; obtain ⟨cs, hr⟩ := hd.srow; exact (hr.lt k e).2
  · intro k e; obtain ⟨cs, hr⟩ := hd.nrow; exact (hr.lt k e).2
  · rintro k (hk | hk | hk | hk)
    · simp only [Pc.ids, List.mem_cons, List.not_mem_nil, or_false] at hk
      rcases hk with hk | hk | hk | hk | hk | hk | hk
      · right; right; right; right; omega
      · left; omega
      · right; left; omega
      · right; right; right; right; omega
      · right; right; right; right; omega
      · right; right; right; right; omega
      · right; right; right; right; omega
    · cases hk
    · exact .inr (.inr (.inl hk))
    · exact .inr (.inr (.inr (.inl hk)))

set_option maxHeartbeats 2000000 in
set_option maxRecDepth 100000 in
theorem pagerNew_any {m : Nat} (hm : 4 ≤ m ∧ m ≤ 3000) (d f : Nat) (sy nw : Value) (w : World) (hd : DevAt w d m 2 sy nw) (hf : Blk w f 274 #[.slice none 0 0, .slice none 0 0, .map none]) :
    Calls Tryz.prog 33 #[ptrV d, ptrV f, .int .i64 2, .int .i64 1] w (PNewP m d f sy nw w) := by
  have hb0 : Below w.heap.size w (w.alloc (.cells #[.int .i64 2] 3)).drew := ((Below.refl _ w).alloc (Nat.le_refl _) _).drew
  have bx : Blk (w.alloc (.cells #[.int .i64 2] 3)).drew w.heap.size 3 #[.int .i64 2] := (Blk.new _ _ _).drew
  have x0 : (w.alloc (.cells #[.int .i64 2] 3)).drew.cell? ⟨w.heap.size, 0, none⟩ = some (.int .i64 2) := bx.cell 0
  have hL := Lib.hid (devLen_any d m 2 sy nw _ (hd.keeps (S := fun _ => False) (Keeps.of_below hb0) fun _ _ h => h))
  have hA := Lib.hid (freeAll_any f _ (hf.below' hb0))
  have hE := Lib.hid (fun (w1 w2 w3 : World) (p : Nat) (h1 : Below w.heap.size w w1) (hp : p = w1.heap.size) e2 e hc => pnew_end hm (w1 := w1) (w2 := w2) (w3 := w3) (e := e) hd hf h1 hp e2 hc)
  have hzz : (w.alloc (.cells #[.int .i64 2] 3)).drew.heap.size = w.heap.size + 1 := by simp
  have HB := Lib.hid hb0
  have HBX := Lib.hid bx
  have X0 := Lib.hid x0
  clear hd hf hb0 bx x0
  go_enter Tryz.func33, Tryz.ntmps33
  go_wp2_with (fail)
  have x0 := X0.out
  refine wp_region_any (by kernel_rfl) ?_
  change wpAny _ _ _ _ _ _ _ (World.drew _)
  try simp only [Act.put, lT, l0, lS]
  refine tA 0 ?_; try simp only [Act.put, lT, l0, lS]
  refine tA 1 ?_; try simp only [Act.put, lT, l0, lS]
  refine tA 2 ?_; try simp only [Act.put, lT, l0, lS]
  refine tA 3 ?_; try simp only [Act.put, lT, l0, lS]
  refine tA 4 ?_; try simp only [Act.put, lT, l0, lS]
  refine tA 5 ?_; try simp only [Act.put, lT, l0, lS]
  refine tA 6 ?_; try simp only [Act.put, lT, l0, lS]
  refine rd 7 (by kernel_rfl) rfl (fun K hK => ?_); go_simp; refine hK _ _ ?_; clear hK K
  try simp only [Act.put, lT, l0, lS]
  refine tA 8 ?_; try simp only [Act.put, lT, l0, lS]
  refine tA 9 ?_; try simp only [Act.put, lT, l0, lS]
  refine tA 10 ?_; try simp only [Act.put, lT, l0, lS]
  refine tA 12 ?_; try simp only [Act.put, lT, l0, lS]
  refine wpAny_ready (rs := [11, 13]) (by kernel_rfl) (by simp) (AllReady.cons (o := { dst := _, op := _, type := _, pos := _, after := _, guard := _ }) rfl (fun K hK => ?_) (AllReady.cons (o := { dst := _, op := _, type := _, pos := _, after := _, guard := _ }) rfl (fun K hK => ?_) AllReady.nil))
  · go_simp
    refine hK _ _ ?_
    clear hK K
    refine rd 13 (by kernel_rfl) rfl (fun K hK => ?_); go_simp
    (go_must (refine hL.out.mono ?_); rintro e w2 ⟨rfl, rfl⟩)
    go_simp
    refine hK _ _ ?_
    clear hK K
    try simp only [Act.put, lT, l0, lS]
    refine tA 14 ?_; try simp only [Act.put, lT, l0, lS]
    refine tA 15 ?_; try simp only [Act.put, lT, l0, lS]
    refine tA 16 ?_; try simp only [Act.put, lT, l0, lS]
    refine tA 17 ?_; try simp only [Act.put, lT, l0, lS]
    refine tA 18 ?_; try simp only [Act.put, lT, l0, lS]
    refine tA 19 ?_; try simp only [Act.put, lT, l0, lS]
    refine wpAny_done (by kernel_rfl) ?_ _
    go_wp2_with (fail)
    go_must (refine hA.out.mono ?_)
    rintro e w3 ⟨rfl, hb3⟩
    have x3 : w3.cell? ⟨w.heap.size, 0, none⟩ = some (.int .i64 2) := (HBX.out.below' hb3).cell 0
    have hz3 := hb3.size
    go_wp2_with (fail)
    go_must (refine (containsNil_any _ _).mono ?_)
    rintro e w4 ⟨rfl, rfl⟩
    go_wp2_with (fail)
    go_must (refine (clear_any w3.heap.size d f _ (Blk.new _ _ _)).mono ?_)
    intro e w5 hc
    have HC := Lib.hid hc
    obtain ⟨rfl, _⟩ := hc
    go_wp2_with (fail)
    go_ret2
    exact hE.out w3 _ w5 w3.heap.size (HB.out.trans (hb3.mono (by simp))) rfl rfl _ HC.out
  · go_simp
    (go_must (refine hL.out.mono ?_); rintro e w2 ⟨rfl, rfl⟩)
    go_simp
    refine hK _ _ ?_
    clear hK K
    refine rd 11 (by kernel_rfl) rfl (fun K hK => ?_); go_simp; refine hK _ _ ?_; clear hK K
    try simp only [Act.put, lT, l0, lS]
    refine tA 14 ?_; try simp only [Act.put, lT, l0, lS]
    refine tA 15 ?_; try simp only [Act.put, lT, l0, lS]
    refine tA 16 ?_; try simp only [Act.put, lT, l0, lS]
    refine tA 17 ?_; try simp only [Act.put, lT, l0, lS]
    refine tA 18 ?_; try simp only [Act.put, lT, l0, lS]
    refine tA 19 ?_; try simp only [Act.put, lT, l0, lS]
    refine wpAny_done (by kernel_rfl) ?_ _
    go_wp2_with (fail)
    go_must (refine hA.out.mono ?_)
    rintro e w3 ⟨rfl, hb3⟩
    have x3 : w3.cell? ⟨w.heap.size, 0, none⟩ = some (.int .i64 2) := (HBX.out.below' hb3).cell 0
    have hz3 := hb3.size
    go_wp2_with (fail)
    go_must (refine (containsNil_any _ _).mono ?_)
    rintro e w4 ⟨rfl, rfl⟩
    go_wp2_with (fail)
    go_must (refine (clear_any w3.heap.size d f _ (Blk.new _ _ _)).mono ?_)
    intro e w5 hc
    have HC := Lib.hid hc
    obtain ⟨rfl, _⟩ := hc
    go_wp2_with (fail)
    go_ret2
    exact hE.out w3 _ w5 w3.heap.size (HB.out.trans (hb3.mono (by simp))) rfl rfl _ HC.out

def BaseP (m : Nat) (w : World) (e : Ending) (w' : World) : Prop :=
  ∃ d g f h sy nw, e = .returned (.tuple #[ptrV d, ptrV g, ptrV f, ptrV h, .bool true]) ∧ DevAt w' d m 2 sy nw ∧ Blk w' f 274 #[.slice none 0 0, .slice none 0 0, .map none] ∧ w.heap.size ≤ d ∧ w.heap.size ≤ f ∧ (∀ k, sy.ownBlock = some k → w.heap.size ≤ k) ∧ (∀ k, nw.ownBlock = some k → w.heap.size ≤ k) ∧ Below w.heap.size w w'

theorem devNew3 {m : Nat} (hm : 4 ≤ m ∧ m ≤ 3000) (w : World) : Calls Tryz.prog 109 #[.int .i64 (m : Int)] w fun e w' => e = .returned (.tuple #[ptrV w.heap.size, .int .i64 0]) ∧ DevAt w' w.heap.size m 0 (.slice none 0 0) (.slice none 0 0) ∧ Below w.heap.size w w' ∧ w'.heap.size = w.heap.size + 1 :=
  (devNew_any m w (by omega) hm.2).mono fun e w' ⟨h1, h2⟩ => ⟨h1, h2 ▸ DevAt.new m w hm.2, h2 ▸ (Below.refl _ w).alloc (Nat.le_refl _) _, by rw [← h2]; simp⟩

theorem refNew3 {m : Nat} (hm : 4 ≤ m ∧ m ≤ 3000) (w : World) : Calls Tryz.prog 110 #[.int .i64 (m : Int)] w fun e w' => e = .returned (.tuple #[ptrV w.heap.size, .int .i64 0]) ∧ Blk w' w.heap.size 263 (refDev m) ∧ Below w.heap.size w w' ∧ w'.heap.size = w.heap.size + 1 :=
  (refNew_any m w (by omega) hm.2).mono fun e w' ⟨h1, h2⟩ => ⟨h1, h2 ▸ Blk.new _ _ _, h2 ▸ (Below.refl _ w).alloc (Nat.le_refl _) _, by rw [← h2]; simp⟩

theorem freeNew3 (w : World) : Calls Tryz.prog 113 #[.slice none 0 0] w fun e w' => e = .returned (ptrV w.heap.size) ∧ Blk w' w.heap.size 274 #[.slice none 0 0, .slice none 0 0, .map none] ∧ Below w.heap.size w w' ∧ w'.heap.size = w.heap.size + 1 :=
  (freeNew_any w).mono fun e w' ⟨h1, h2⟩ => ⟨h1, h2 ▸ Blk.new _ _ _, h2 ▸ (Below.refl _ w).alloc (Nat.le_refl _) _, by rw [← h2]; simp⟩

/-- What the parts of Base come to. -/
theorem base_end {m : Nat} {w w1 w2 w3 w4 w5 w6 : World} {sy nw : Value} {T : TypeId} {V : Array Value} (a1 : DevAt w1 w.heap.size m 0 (.slice none 0 0) (.slice none 0 0)) (b1 : Below w.heap.size w w1) (z1 : w1.heap.size = w.heap.size + 1)
    (b2 : Below w1.heap.size w1 w2) (z2 : w2.heap.size = w1.heap.size + 1) (a2 : Blk w2 w1.heap.size 263 (refDev m))
    (a3 : DevAt w3 w.heap.size m 2 sy nw) (k3 : GrowK w.heap.size (.slice none 0 0) (.slice none 0 0) sy nw w2 w3) (k4 : Keeps (fun k => k = w1.heap.size) w3 w4) (a5 : Blk w5 w4.heap.size 274 #[.slice none 0 0, .slice none 0 0, .map none])
    (b5 : Below w4.heap.size w4 w5) (b6 : Below w5.heap.size w5 w6) :
    BaseP m w (.returned (.tuple #[ptrV w.heap.size, ptrV w1.heap.size, ptrV w4.heap.size, ptrV w6.heap.size, .bool true])) (w6.alloc (.cells V T)) := by
  have hz3 := k3.keeps.size
  have hz4 := k4.size
  have hz5 := b5.size
  have hz6 := b6.size
  have c2 : Below w.heap.size w w2 := b1.trans (b2.mono (by omega))
  have c3 : Below w.heap.size w w3 := c2.trans (k3.keeps.below (by omega) (fun i hi e => by
    rcases e with e | e | e
    · omega
    · cases e
    · cases e))
  have c4 : Below w.heap.size w w4 := c3.trans (k4.below (by omega) (fun i hi e => by omega))
  have c5 : Below w.heap.size w w5 := c4.trans (b5.mono (by omega))
  have c6 : Below w.heap.size w w6 := c5.trans (b6.mono (by omega))
  have c7 : Below w.heap.size w (w6.alloc (.cells V T)) := c6.alloc (by omega) _
  have a2' : Blk w3 w1.heap.size 263 (refDev m) := a2.keeps k3.keeps (fun e => by
    rcases e with e | e | e
    · omega
    · cases e
    · cases e)
  have a4 : DevAt w4 w.heap.size m 2 sy nw := a3.keeps k4 (fun k hk e => by
    subst e
    rcases hk with e | e | e
    · omega
    · obtain ⟨cs, hr⟩ := a3.srow
      exact own_ne hr a2' (by decide) _ e rfl
    · obtain ⟨cs, hr⟩ := a3.nrow
      exact own_ne hr a2' (by decide) _ e rfl)
  have b46 : Below w4.heap.size w4 (w6.alloc (.cells V T)) := (b5.trans (b6.mono (by omega))).alloc (by omega) _
  have a6 : DevAt (w6.alloc (.cells V T)) w.heap.size m 2 sy nw := a4.keeps (S := fun _ => False) (Keeps.of_below b46) fun _ _ h => h
  refine ⟨w.heap.size, w1.heap.size, w4.heap.size, w6.heap.size, sy, nw, rfl, a6, (a5.below' b6).alloc _, Nat.le_refl _, by omega, fun k e => ?_, fun k e => ?_, c7⟩
  · rcases k3.sy k e with h | h
    · cases h
    · omega
  · rcases k3.nw k e with h | h
    · cases h
    · omega

set_option maxHeartbeats 2000000 in
set_option maxRecDepth 100000 in
theorem base_any {m : Nat} (hm : 4 ≤ m ∧ m ≤ 3000) (w : World) : Calls Tryz.prog 32 #[.int .i64 (m : Int), .int .i64 2, .slice none 0 0] w (BaseP m w) := by
  go_enter Tryz.func32, Tryz.ntmps32
  go_wp2_with (fail)
  go_must (refine (devNew3 hm w).mono ?_)
  rintro e w1 ⟨rfl, a1, b1, z1⟩
  have A1 := Lib.hid a1
  have B1 := Lib.hid b1
  have Z1 := Lib.hid z1
  clear a1 b1 z1
  go_wp2_with (fail)
  go_must (refine (refNew3 hm w1).mono ?_)
  rintro e w2 ⟨rfl, a2, b2, z2⟩
  have a1' : DevAt w2 w.heap.size m 0 (.slice none 0 0) (.slice none 0 0) := A1.out.keeps (S := fun _ => False) (Keeps.of_below b2) fun _ _ h => h
  have A2 := Lib.hid a2
  have B2 := Lib.hid b2
  have Z2 := Lib.hid z2
  have hG := Lib.hid (devTo_any w.heap.size m 0 2 _ _ w2 a1' (by omega) (by omega))
  clear a2 b2 z2 a1'
  go_wp2_with (fail)
  go_must (refine hG.out.mono ?_)
  rintro e w3 ⟨rfl, sy, nw, a3, k3⟩
  have hR := Lib.hid (refGrow_any hm (A2.out.keeps k3.keeps (fun e => by
    have := Z1.out
    rcases e with e | e | e
    · omega
    · cases e
    · cases e)))
  have A3 := Lib.hid a3
  have K3 := Lib.hid k3
  clear a3 k3 hG
  go_wp2_with (fail)
  go_must (refine hR.out.mono ?_)
  rintro e w4 ⟨rfl, k4⟩
  have K4 := Lib.hid k4
  clear k4 hR
  go_wp2_with (fail)
  go_must (refine (freeNew3 w4).mono ?_)
  rintro e w5 ⟨rfl, a5, b5, z5⟩
  have A5 := Lib.hid a5
  have B5 := Lib.hid b5
  clear a5 b5 z5
  go_wp2_with (fail)
  go_must (refine (refSorted_nil w5).mono ?_)
  rintro e w6 ⟨rfl, b6⟩
  have B6 := Lib.hid b6
  clear b6
  go_wp2_with (fail)
  refine bodyPost_ret (v := .tuple #[ptrV w.heap.size, ptrV w1.heap.size, ptrV w4.heap.size, ptrV w6.heap.size, .bool true]) (by simp [results, Tryz.results32, go_sem]) rfl ?_
  exact base_end A1.out B1.out Z1.out B2.out Z2.out A2.out A3.out K3.out K4.out A5.out B5.out B6.out

def TNewP (m p : Nat) (c : Pc) (w : World) (e : Ending) (w' : World) : Prop :=
  ∃ root c', e = .returned (.tuple #[.int .i64 root, .int .i64 0]) ∧ PgOk w' p c' m (updS (fun _ => none) root (some ⟨2, 0, []⟩)) 1 ∧ PgK p c c' w w'

theorem treeNew_any {m : Nat} (hm : 4 ≤ m ∧ m ≤ 3000) (p : Nat) (c : Pc) (w : World) (h : PgOk w p c m (fun _ => none) 0) : Calls Tryz.prog 100 #[ptrV p] w (TNewP m p c w) := by
  have hM := Lib.hid (make_any ⟨2, 0, []⟩ w h (by simp [Pg.ok]) (by omega))
  clear h
  go_enter Tryz.func100, Tryz.ntmps100
  go_wp2_with (fail)
  go_must (refine hM.out.mono ?_)
  rintro e w1 ⟨root, c', rfl, _, _, _, hp, hk⟩
  have HP := Lib.hid hp
  have HK := Lib.hid hk
  clear hp hk
  go_wp2_with (fail)
  go_ret2
  exact ⟨root, c', rfl, HP.out, HK.out⟩

def BeginM (m : Nat) (w : World) (e : Ending) (w' : World) : Prop :=
  ∃ d f p c root, e = .returned (.tuple #[ptrV d, ptrV f, ptrV p, .int .i64 root, .bool true]) ∧ PgOk w' p c m (updS (fun _ => none) root (some ⟨2, 0, []⟩)) 1 ∧ (∀ k, c.S p k → w.heap.size ≤ k) ∧ Below w.heap.size w w'

set_option maxHeartbeats 2000000 in
theorem begin_m {m : Nat} (hm : 4 ≤ m ∧ m ≤ 3000) (w : World) : Calls Tryz.prog 28 #[.int .i64 (m : Int)] w (BeginM m w) := by
  go_enter Tryz.func28, Tryz.ntmps28
  go_wp2_with (fail)
  go_must (refine (base_any hm w).mono ?_)
  rintro e w1 ⟨d, g, f, h, sy, nw, rfl, hd, hf, d1, d2, d3, d4, b1⟩
  have hN := Lib.hid (pagerNew_any hm d f sy nw w1 hd hf)
  have B1 := Lib.hid b1
  clear hd hf b1
  go_wp2_with (fail)
  go_must (refine hN.out.mono ?_)
  rintro e w2 ⟨p, c, rfl, hp, hs, b2⟩
  have hT := Lib.hid (treeNew_any hm p c w2 hp)
  have hz1 := B1.out.size
  have HS := Lib.hid (show ∀ k, c.S p k → w.heap.size ≤ k from fun k hk => by
    rcases hs k hk with h | h | h | h | h
    · omega
    · omega
    · exact d3 k h
    · exact d4 k h
    · omega)
  have B2 := Lib.hid b2
  clear hp hs b2 hN
  go_wp2_with (fail)
  go_must (refine hT.out.mono ?_)
  rintro e w3 ⟨root, c', rfl, hp, hk⟩
  have HP := Lib.hid hp
  have HK := Lib.hid hk
  clear hp hk hT
  go_wp2_with (fail)
  refine bodyPost_ret (v := .tuple #[ptrV d, ptrV f, ptrV p, .int .i64 root, .bool true]) (by simp [results, Tryz.results28, go_sem]) rfl ?_
  have hz2 := B2.out.size
  refine ⟨d, f, p, c', root, rfl, HP.out, fun k hk => ?_, ?_⟩
  · rcases HK.out.sub k hk with h | h
    · exact HS.out k h
    · omega
  · exact (B1.out.trans (B2.out.mono hz1)).trans (HK.out.keeps.below (by omega) fun i hi e => by have := HS.out i e; omega)

abbrev BeginP (w : World) (e : Ending) (w' : World) : Prop := BeginM 3000 w e w'
theorem begin_any (w : World) : Calls Tryz.prog 28 #[.int .i64 3000] w (BeginP w) := begin_m (m := 3000) (by omega) w
end Go.Ev

set_option linter.unusedVariables false
set_option linter.unusedSimpArgs false
namespace Go.Ev

theorem Seg.get {T : Int → Bytes → Option Bytes → List Pair → List Int → Prop} : ∀ {L : List Child} {hi : Option Bytes} {ps : List Pair} {ids : List Int} {i : Nat} {y : Child}, Seg T L hi ps ids → L[i]? = some y → ∃ h p q, T y.page y.key h p q
  | [], _, _, _, _, _, _, h => by simp at h
  | c :: L, hi, ps, ids, 0, y, ⟨p1, p2, i1, i2, _, _, h3, _⟩, h => by
    simp only [List.getElem?_cons_zero, Option.some.injEq] at h
    subst h
    exact ⟨_, _, _, h3⟩
  | c :: L, hi, ps, ids, i + 1, y, ⟨p1, p2, i1, i2, _, _, _, h4⟩, h => Seg.get h4 (by simpa using h)

theorem headKey_page (k : Bytes) : ∀ (L : List Child) (i : Nat) (x : Child), (headKey k L)[i]? = some x → ∃ y, L[i]? = some y ∧ y.page = x.page
  | [], i, x, h => by simp [headKey] at h
  | c :: L, 0, x, h => by
    simp only [headKey, List.getElem?_cons_zero, Option.some.injEq] at h
    subst h
    exact ⟨c, rfl, rfl⟩
  | c :: L, i + 1, x, h => ⟨x, by simpa [headKey] using h, rfl⟩

theorem findC_lt {k : Bytes} {c : Child} {L : List Child} : findC k (c :: L) < (c :: L).length := by
  have := below_le k L
  unfold findC
  simp only [List.tail_cons, List.length_cons]
  omega

theorem TreeAt.way {M : Store} {d : Nat} (key : Bytes) : ∀ {k lev : Nat} {id : Int} {lo : Bytes} {hi : Option Bytes} {ps : List Pair} {ids : List Int}, TreeAt M d k id lo hi ps ids → (2 ≤ d ∨ 0 < lev) → lev + k < 30 → (ps ≠ [] ∨ lev = 0) →
    ∃ P lid items, Way M key lev id P lid items ∧ P.length = k
  | 0, lev, id, lo, hi, ps, ids, ⟨items, i2, h1, h2, h3, h4, h5, h6⟩, hd, hl, hp => by
    refine ⟨[], id, items, .leaf h1 h2 h3 ?_ (by omega), rfl⟩
    rcases hp with hp | hp
    · refine .inl fun e => hp ?_
      subst e
      exact h4.1
    · exact .inr hp
  | k + 1, lev, id, lo, hi, ps, ids, ⟨c, L, i2, h1, h2, h3, h4, h5, h6, h7⟩, hd, hl, hp => by
    have hlt : findC key (headKey [] (c :: L)) < (headKey [] (c :: L)).length := findC_lt
    obtain ⟨x, hx⟩ : ∃ x, (headKey [] (c :: L))[findC key (headKey [] (c :: L))]? = some x := ⟨_, List.getElem?_eq_getElem hlt⟩
    obtain ⟨y, hy, hpg⟩ := headKey_page [] _ _ _ hx
    obtain ⟨h', p', q', ht, hne⟩ := Seg.get h6 hy
    rw [hpg] at ht
    obtain ⟨P, lid, items, hw, hlen⟩ := TreeAt.way (lev := lev + 1) key ht (.inr (by omega)) (by omega) (.inl hne)
    refine ⟨_, lid, items, .branch h1 h2 h3 ?_ (by omega) hx hw, by simp [hlen]⟩
    rcases hd with hd | hd
    · refine .inl ?_
      simp only [headKey, List.length_cons]
      omega
    · exact .inr hd
end Go.Ev

set_option linter.unusedVariables false
set_option linter.unusedSimpArgs false
namespace Go.Ev
open Go.Proofs Go.RowKit

def markP (i f n : Nat) : List Pair := (List.range n).map fun j => (nameB i (f + j), [])
theorem markP_len (i f n : Nat) : (markP i f n).length = n := by simp [markP]
theorem markP_succ (i f n : Nat) : markP i f (n + 1) = markP i f n ++ [(nameB i (f + n), [])] := by simp [markP, List.range_succ]
theorem markP_zero (i f : Nat) : markP i f 0 = [] := rfl
theorem markP_app (i f : Nat) (n m : Nat) : markP i f n ++ markP i (f + n) m = markP i f (n + m) := by
  induction m with
  | zero => simp [markP_zero]
  | succ m ih => rw [markP_succ, ← List.append_assoc, ih, ← Nat.add_assoc n m 1, markP_succ, Nat.add_assoc]

set_option maxHeartbeats 2000000 in
set_option maxRecDepth 100000 in
theorem markPairs_any (i f n : Nat) (w : World) (hi : i ≤ 1000) (hf : f + n ≤ 50000) :
    Calls Tryz.prog 149 #[.int .i64 (i : Int), .int .i64 (f : Int), .int .i64 (n : Int)] w fun e w' => ∃ v, e = .returned v ∧ w'.ownsRow w.heap.size 44 2 v n (pairsCs (markP i f n)) ∧ Below w.heap.size w w' := by
  obtain ⟨i0, hinf, q0, q1, q2⟩ := info_parts infoPair
  obtain ⟨m, hm⟩ : ∃ m, f + n = m := ⟨_, rfl⟩
  have hwm : IntKind.i64.wrap ((f : Int) + (n : Int)) = (m : Int) := by rw [IntWalk.i64_in _ (by omega)]; omega
  go_enter Tryz.func149, Tryz.ntmps149
  go_wp2_with (fail)
  go_loopg [7, 8] n (fun gk s7 s8 wr => ∃ (j k : Nat), s8 = .int .i64 (k : Int) ∧ k = f + j ∧ j + gk = n ∧ Hid (wr.ownsRow w.heap.size 44 2 s7 j (pairsCs (markP i f j))) ∧ Hid (Below w.heap.size w wr))
  case atStart => exact ⟨0, f, rfl, by omega, by omega, World.ownsRow_nil _ _ _ _, Below.refl _ _⟩
  case round =>
    obtain ⟨j, k, rfl, hk, hj, hown, hb⟩ := hrel
    obtain ⟨A, cc, rfl, -⟩ := Sl.of_own hown.out
    by_cases hlt : k < m
    · have hlt' : (k : Int) < (m : Int) := by omega
      have hw1 : IntKind.i64.wrap ((k : Int) + 1) = (k : Int) + 1 := IntWalk.i64_in _ (by omega)
      have HN := Lib.hid (name_any i k wr (by omega) (by omega))
      have HK := Lib.hid hk
      clear hk
      go_wp2_with (fail)
      go_must (refine HN.out.mono ?_)
      rintro e w1 ⟨rfl, hb1⟩
      have HB1 := Lib.hid hb1
      clear hb1
      go_wp2_with (at_builtin; go_must (refine wpList_append_at rfl _ _ 26 rfl w.heap.size 44 i0 _ 2 32 Tryz.underlying26 hinf q0 q1 q2 rfl (by decide) _ j (pairsCs (markP i f j)) rfl ((own_below hown.out HB1.out).alloc _) ⟨w1.heap.size, 0, none⟩ 1 1 (pairsCs [(nameB i k, [])]) rfl rfl (row_pair _ (nameB i k, []) _ _ rfl) (pairsCs_one _) (by unfold maxLen; omega) (by omega) (by have := HB1.out.size; have := hb.out.size; simp; omega) ?_))
      intro v5 w5 own5 hg5 _
      have hb5 : Below w.heap.size w w5 := ((hb.out.trans (HB1.out.mono hb.out.size)).alloc (by have := HB1.out.size; have := hb.out.size; omega) _).grown hg5 (by have := HB1.out.size; have := hb.out.size; simp; omega) (fun k hk => (hown.out.lt k hk).1)
      have hN : w5.ownsRow w.heap.size 44 2 v5 (j + 1) (pairsCs (markP i f (j + 1))) := by
        rw [markP_succ, pairsCs_app, ← HK.out]
        exact own5
      have HN5 := Lib.hid (And.intro hN hb5)
      obtain ⟨A5, c5, rfl, -⟩ := Sl.of_own own5
      clear own5 hg5 hb5 hN
      go_wp2_with (fail)
      go_roundg (gk - 1)
      case measure => have := HK.out; omega
      case rel => exact ⟨j + 1, k + 1, by simp, by have := HK.out; omega, by have := HK.out; omega, HN5.out.1, HN5.out.2⟩
    · have hlt' : ¬ (k : Int) < (m : Int) := by omega
      have hjn : j = n := by omega
      subst hjn
      go_wp2_with (fail)
      go_ret
      exact ⟨_, rfl, hown.out, hb.out⟩

theorem copyPairs_any (A : Option Addr) (n c : Nat) (l : List Pair) (w : World) (h : Sl w 2 (.slice A n c) n (pairsCs l)) (hA : A = none → c = 0) (hn : n ≤ 100000) :
    Calls Tryz.prog 51 #[.slice A n c] w fun e w' => ∃ v, e = .returned v ∧ w'.ownsRow w.heap.size 44 2 v n (pairsCs l) ∧ Below w.heap.size w w' := by
  obtain ⟨i0, hinf, q0, q1, q2⟩ := info_parts infoPair
  go_enter Tryz.func51, Tryz.ntmps51
  go_wp2_with (at_builtin; go_must (refine wpList_append_sl rfl _ _ 26 rfl w.heap.size 44 i0 _ 2 32 Tryz.underlying26 hinf q0 q1 q2 rfl (by decide) (.slice none 0 0) 0 [] rfl (World.ownsRow_nil _ _ _ _) A n c (pairsCs l) rfl h hA (pairsCs_one _) (by unfold maxLen; omega) (by omega) (Nat.le_refl _) ?_))
  intro v8 w8 own8 hg8
  have hb8 : Below w.heap.size w w8 := (Below.refl _ w).grown hg8 (Nat.le_refl _) (fun k hk => by cases hk)
  have H8 := Lib.hid (And.intro own8 hb8)
  obtain ⟨A8, c8, rfl, -⟩ := Sl.of_own own8
  clear own8 hg8 hb8
  go_wp2_with (fail)
  go_ret
  exact ⟨_, rfl, H8.out.1, H8.out.2⟩

theorem infoPairs : (Tryz.prog.info? 26).map (fun i => (i.zero, i.size, i.bytes)) = some (some (.slice none 0 0), 1, 24) := by kernel_rfl

/-- A book that keeps pairs alone. -/
def bookCs (pv wv : Value) : Array Value := #[.slice none 0 0, .slice none 0 0, .slice none 0 0, .slice none 0 0, .slice none 0 0, .slice none 0 0, .slice none 0 0, .slice none 0 0, pv, wv, .slice none 0 0, .slice none 0 0, .slice none 0 0, .slice none 0 0, .slice none 0 0, .slice none 0 0, .slice none 0 0, .slice none 0 0, .slice none 0 0, .slice none 0 0, .slice none 0 0, .slice none 0 0]

structure BookAt (W : World) (B g : Nat) (pv wv : Value) (ms ws : List Value) : Prop where
  blk : Blk W g 61 (bookCs pv wv)
  pr : W.ownsRow B 26 1 pv ms.length ms
  wr : W.ownsRow B 26 1 wv ws.length ws
  pw : ∀ k, pv.ownBlock = some k → wv.ownBlock ≠ some k
  low : B ≤ g

def BookS (g : Nat) (pv wv : Value) (k : Nat) : Prop := k = g ∨ pv.ownBlock = some k ∨ wv.ownBlock = some k

section
variable {W W' : World} {B g : Nat} {pv wv : Value} {ms ws : List Value}
theorem BookAt.keeps {S : Nat → Prop} (h : BookAt W B g pv wv ms ws) (hk : Keeps S W W') (hS : ∀ k, BookS g pv wv k → ¬ S k) : BookAt W' B g pv wv ms ws :=
  ⟨h.blk.keeps hk (hS _ (.inl rfl)), own_keeps h.pr hk fun k e => hS _ (.inr (.inl e)), own_keeps h.wr hk fun k e => hS _ (.inr (.inr e)), h.pw, h.low⟩
theorem BookAt.below (h : BookAt W B g pv wv ms ws) (hb : Below W.heap.size W W') : BookAt W' B g pv wv ms ws := h.keeps (S := fun _ => False) (Keeps.of_below hb) fun _ _ h => h
theorem BookAt.lt (h : BookAt W B g pv wv ms ws) : ∀ k, BookS g pv wv k → B ≤ k ∧ k < W.heap.size := by
  rintro k (rfl | hk | hk)
  · exact ⟨h.low, h.blk.lt⟩
  · exact h.pr.lt k hk
  · exact h.wr.lt k hk

theorem row_val (w : World) (v : Value) (T : TypeId) (b : Nat) (hb : b = w.heap.size) : ∀ j u, [v][j]? = some u → (w.alloc (.cells #[v] T)).cell? ((⟨b, 0, none⟩ : Addr).add j) = some u := by
  intro j u h
  subst hb
  rw [addr_add, Nat.zero_add, (Blk.new w T #[v]).cell j]
  match j with
  | 0 => exact h
  | j + 1 => simp at h

/-- What was kept is kept with one more. -/
theorem book_grow1 {v pv' : Value} {w1 w2 : World} (h : BookAt W B g pv wv ms ws) (hBW : B ≤ W.heap.size) (hb : Below W.heap.size W w1) (ho : w2.ownsRow B 26 1 pv' (ms.length + 1) (ms ++ [v])) (hg : w1.grownBy w2 pv.ownBlock) (hat : ∀ k, pv'.ownBlock = some k → pv.ownBlock = some k ∨ W.heap.size ≤ k) :
    w2.cell? ⟨g, 8, none⟩ = some pv ∧ w2.frozen? ⟨g, 8, none⟩ = false ∧ BookAt (w2.setCell ⟨g, 8, none⟩ pv') B g pv' wv (ms ++ [v]) ws ∧ Keeps (BookS g pv wv) W (w2.setCell ⟨g, 8, none⟩ pv') := by
  have hz := hb.size
  have hpg : ∀ k, pv.ownBlock = some k → k ≠ g := own_ne h.pr h.blk (by decide)
  have hwg : ∀ k, wv.ownBlock = some k → k ≠ g := own_ne h.wr h.blk (by decide)
  have K1 : Keeps (fun k => pv.ownBlock = some k) W w2 := (Keeps.of_below hb).grown hg fun k hk _ => hk
  have b2 := h.blk.keeps K1 (fun e => hpg _ e rfl)
  have hp2 : ∀ k, pv'.ownBlock = some k → k ≠ g := own_ne ho b2 (by decide)
  have K2 : Keeps (fun k => k = g) w2 (w2.setCell ⟨g, 8, none⟩ pv') := (Keeps.refl (fun k => k = g) w2).setCell (p := ⟨g, 8, none⟩) (fun _ => rfl) _
  refine ⟨b2.cell 8, b2.frozen 8, ⟨b2.set 8 pv', ?_, own_keeps (own_keeps h.wr K1 fun k hk e => h.pw k e hk) K2 hwg, fun k hk e => ?_, h.low⟩, (K1.mono fun i _ e => .inr (.inl e)).trans K2 fun i _ e => .inl e⟩
  · rw [List.length_append]
    exact own_keeps ho K2 hp2
  · rcases hat k hk with e2 | e2
    · exact h.pw k e2 e
    · have := (h.wr.lt k e).2; omega

theorem book_grow2 {v wv' : Value} {w1 w2 : World} (h : BookAt W B g pv wv ms ws) (hBW : B ≤ W.heap.size) (hb : Below W.heap.size W w1) (ho : w2.ownsRow B 26 1 wv' (ws.length + 1) (ws ++ [v])) (hg : w1.grownBy w2 wv.ownBlock) (hat : ∀ k, wv'.ownBlock = some k → wv.ownBlock = some k ∨ W.heap.size ≤ k) :
    w2.cell? ⟨g, 9, none⟩ = some wv ∧ w2.frozen? ⟨g, 9, none⟩ = false ∧ BookAt (w2.setCell ⟨g, 9, none⟩ wv') B g pv wv' ms (ws ++ [v]) ∧ Keeps (BookS g pv wv) W (w2.setCell ⟨g, 9, none⟩ wv') := by
  have hz := hb.size
  have hpg : ∀ k, pv.ownBlock = some k → k ≠ g := own_ne h.pr h.blk (by decide)
  have hwg : ∀ k, wv.ownBlock = some k → k ≠ g := own_ne h.wr h.blk (by decide)
  have K1 : Keeps (fun k => wv.ownBlock = some k) W w2 := (Keeps.of_below hb).grown hg fun k hk _ => hk
  have b2 := h.blk.keeps K1 (fun e => hwg _ e rfl)
  have hp2 : ∀ k, wv'.ownBlock = some k → k ≠ g := own_ne ho b2 (by decide)
  have K2 : Keeps (fun k => k = g) w2 (w2.setCell ⟨g, 9, none⟩ wv') := (Keeps.refl (fun k => k = g) w2).setCell (p := ⟨g, 9, none⟩) (fun _ => rfl) _
  refine ⟨b2.cell 9, b2.frozen 9, ⟨b2.set 9 wv', own_keeps (own_keeps h.pr K1 fun k hk e => h.pw k hk e) K2 hpg, ?_, fun k hk e => ?_, h.low⟩, (K1.mono fun i _ e => .inr (.inr e)).trans K2 fun i _ e => .inl e⟩
  · rw [List.length_append]
    exact own_keeps ho K2 hp2
  · rcases hat k e with e2 | e2
    · exact h.pw k hk e2
    · have := (h.pr.lt k hk).2; omega

def BookPairsP (B g : Nat) (pv wv : Value) (ms ws : List Value) (v : Value) (n : Nat) (l : List Pair) (w : World) (e : Ending) (w' : World) : Prop :=
  e = .returned (.tuple #[]) ∧ ∃ pv' wv' x, BookAt w' B g pv' wv' (ms ++ [v]) (ws ++ [x]) ∧ w'.ownsRow w.heap.size 44 2 x n (pairsCs l) ∧ Keeps (BookS g pv wv) w w'

set_option maxHeartbeats 4000000 in
set_option maxRecDepth 100000 in
theorem bookPairs_any (A : Option Addr) (n c : Nat) (l : List Pair) (h : BookAt W B g pv wv ms ws) (hBW : B ≤ W.heap.size) (hms : ms.length ≤ 200) (hws : ws.length ≤ 200) (hv : Sl W 2 (.slice A n c) n (pairsCs l)) (hA : A = none → c = 0) (hn : n ≤ 100000) (hAg : ∀ b o, A = some ⟨b, o, none⟩ → ¬ BookS g pv wv b) :
    Calls Tryz.prog 22 #[ptrV g, .slice A n c] W (BookPairsP B g pv wv ms ws (.slice A n c) n l W) := by
  obtain ⟨i0, hinf, q0, q1, q2⟩ := info_parts infoPairs
  obtain ⟨Ap, cp, rfl, -⟩ := Sl.of_own h.pr
  obtain ⟨Aw, cw, rfl, -⟩ := Sl.of_own h.wr
  have c8 : W.cell? ⟨g, 8, none⟩ = some (.slice Ap ms.length cp) := h.blk.cell 8
  have hml : (ms.length : Int) < 250 := by omega
  have hb1 : Below W.heap.size W (W.alloc (.cells #[.slice A n c] 26)) := (Below.refl _ W).alloc (Nat.le_refl _) _
  have HG1 := Lib.hid (fun v w2 pv' r1 r2 r3 => book_grow1 (v := v) (w2 := w2) (pv' := pv') h hBW hb1 r1 r2 r3)
  have HH := Lib.hid (And.intro h hv)
  have HNil := Lib.hid (And.intro hA hAg)
  clear hA hAg
  have HO1 := Lib.hid (own_below h.pr hb1)
  clear hb1
  go_enter Tryz.func22, Tryz.ntmps22
  clear h hv
  have c8a : (W.alloc (.cells #[.slice A n c] 26)).cell? ⟨g, 8, none⟩ = some (.slice Ap ms.length cp) := (HH.out.1.blk.alloc _).cell 8
  go_wp2_with (at_builtin; go_must (refine wpList_append_at rfl _ _ 53 rfl B 26 i0 _ 1 24 Tryz.underlying53 hinf q0 q1 q2 rfl (by decide) _ ms.length ms rfl HO1.out ⟨W.heap.size, 0, none⟩ 1 1 [.slice A n c] rfl rfl (row_val _ _ _ _ rfl) (by simp [Value.oneCell']) (by unfold maxLen; omega) (by omega) (by simp; omega) ?_))
  intro v2 w2 own2 hg2 hat2
  obtain ⟨z1, z2, hB2, hK2⟩ := HG1.out _ w2 v2 own2 hg2 (fun k e => (hat2 k e).elim .inl fun h => .inr (by omega))
  have hz2 := hK2.size
  have hv2 : Sl (w2.setCell ⟨g, 8, none⟩ v2) 2 (.slice A n c) n (pairsCs l) := HH.out.2.keeps hK2 fun A' m' c' b o e1 e2 => by
    cases e1
    exact HNil.out.2 b o e2
  have HAt : Hid (∀ i, v2.ownBlock = some i → i < W.heap.size → (Value.slice Ap ms.length cp).ownBlock = some i) := fun i e hi => by
    rcases hat2 i e with e2 | e2
    · exact e2
    · omega
  have HB2 := Lib.hid (And.intro hB2 hK2)
  have HV2 := Lib.hid hv2
  obtain ⟨W2, hW2⟩ : ∃ W2, w2.setCell ⟨g, 8, none⟩ v2 = W2 := ⟨_, rfl⟩
  rw [hW2] at HB2 HV2 hz2
  have c9 : W2.cell? ⟨g, 9, none⟩ = some (.slice Aw ws.length cw) := HB2.out.1.blk.cell 9
  have HCp := Lib.hid (fun V (hb : Below W2.heap.size W2 V) => copyPairs_any A n c l V (HV2.out.below hb) HNil.out.1 hn)
  obtain ⟨A2, c2, rfl, -⟩ := Sl.of_own own2
  clear own2 hg2 hat2 hB2 hK2 hv2
  go_wp2_with (fail)
  clear z1 z2 hW2
  refine wp_region_any (by kernel_rfl) ?_
  change wpAny _ _ _ _ _ _ _ (World.drew _)
  try simp only [Act.put, lT, l0, lS]
  refine tA 0 ?_; try simp only [Act.put, lT, l0, lS]
  refine tA 1 ?_; try simp only [Act.put, lT, l0, lS]
  refine tA 2 ?_; try simp only [Act.put, lT, l0, lS]
  refine tA 3 ?_; try simp only [Act.put, lT, l0, lS]
  refine tA 5 ?_; try simp only [Act.put, lT, l0, lS]
  refine wpAny_ready (rs := [4, 6]) (by kernel_rfl) (by simp) (AllReady.cons (o := { dst := _, op := _, type := _, pos := _, after := _, guard := _ }) rfl (fun K hK => ?_) (AllReady.cons (o := { dst := _, op := _, type := _, pos := _, after := _, guard := _ }) rfl (fun K hK => ?_) AllReady.nil))
  · go_simp
    refine hK _ _ ?_
    clear hK K
    refine rd 6 (by kernel_rfl) rfl (fun K hK => ?_); go_simp
    (go_must (refine (HCp.out _ (Below.refl _ W2).drew).mono ?_); rintro e w3 ⟨x, rfl, hx, hb3⟩)
    have hb3' : Below W2.heap.size W2 w3 := (Below.refl _ W2).drew.trans hb3
    have hb4 : Below W2.heap.size W2 (w3.alloc (.cells #[x] 26)) := hb3'.alloc hb3'.size _
    have HG2 := Lib.hid (fun w5 wv' r1 r2 r3 => book_grow2 (v := x) (w2 := w5) (wv' := wv') HB2.out.1 (by omega) hb4 r1 r2 r3)
    have HO2 := Lib.hid (own_below HB2.out.1.wr hb4)
    have HX := Lib.hid (And.intro hx hb3')
    have hx1 : Value.oneCell' x = true := by
      obtain ⟨Ax, cx, rfl, -⟩ := Sl.of_own hx
      rfl
    obtain ⟨Ax, cx, rfl, -⟩ := Sl.of_own hx
    clear hx hb3 hb3' hb4
    go_simp
    refine hK _ _ ?_
    clear hK K
    refine rd 7 (by kernel_rfl) rfl (fun K hK => ?_); go_simp; refine hK _ _ ?_; clear hK K
    refine rd 8 (by kernel_rfl) rfl (fun K hK => ?_); refine if_on rfl ?_
    go_must (refine wp_append_at _ _ 53 rfl B 26 i0 _ 1 24 Tryz.underlying53 hinf q0 q1 q2 rfl (by decide) _ ws.length ws rfl HO2.out ⟨w3.heap.size, 0, none⟩ 1 1 [.slice Ax n cx] rfl rfl (row_val _ _ _ _ rfl) (by simp [Value.oneCell']) (by unfold maxLen; omega) (by omega) (by have := HX.out.2.size; simp; omega) ?_)
    intro v5 w5 own5 hg5 hat5
    obtain ⟨z1, z2, hB5, hK5⟩ := HG2.out w5 v5 own5 hg5 (fun k e => (hat5 k e).elim .inl fun h => .inr (Nat.le_trans HX.out.2.size (Nat.le_of_succ_le (by simpa using h))))
    have HE : Hid (BookPairsP B g (.slice Ap ms.length cp) (.slice Aw ws.length cw) ms ws (.slice A n c) n l W (.returned (.tuple #[])) (w5.setCell ⟨g, 9, none⟩ v5)) := by
      refine ⟨rfl, _, _, _, hB5, ?_, HB2.out.2.trans hK5 fun i hi e => ?_⟩
      · have h1 := own_base HX.out.1 (show W.heap.size ≤ W2.drew.heap.size by exact hz2)
        have hk : Keeps (fun k => k = g ∨ (Value.slice Aw ws.length cw).ownBlock = some k) w3 (w5.setCell ⟨g, 9, none⟩ v5) :=
          ((((Keeps.refl (fun k => k = g ∨ (Value.slice Aw ws.length cw).ownBlock = some k) w3).alloc _).grown hg5 fun k e _ => .inr e)).setCell (p := ⟨g, 9, none⟩) (fun _ => .inl rfl) _
        refine own_keeps h1 hk fun k e hs => ?_
        have h2 := (HX.out.1.lt k e).1
        have h3 : W2.heap.size ≤ k := h2
        rcases hs with hs | hs
        · have := HB2.out.1.blk.lt; omega
        · have := (HB2.out.1.wr.lt k hs).2; omega
      · rcases e with e | e | e
        · exact .inl e
        · exact .inr (.inl (HAt.out i e hi))
        · exact .inr (.inr e)
    obtain ⟨A5, c5, rfl, -⟩ := Sl.of_own own5
    clear own5 hg5 hat5 hB5 hK5
    go_simp
    refine hK _ _ ?_
    clear hK K
    try simp only [Act.put, lT, l0, lS]
    refine tA 9 ?_; try simp only [Act.put, lT, l0, lS]
    refine tA 10 ?_; try simp only [Act.put, lT, l0, lS]
    refine rd 11 (by kernel_rfl) rfl (fun K hK => ?_); go_simp; refine hK _ _ ?_; clear hK K
    refine wpAny_done (by kernel_rfl) ?_ _
    go_wp2_with (fail)
    go_end0
    exact HE.out
  · go_simp
    (go_must (refine (HCp.out _ (Below.refl _ W2).drew).mono ?_); rintro e w3 ⟨x, rfl, hx, hb3⟩)
    have hb3' : Below W2.heap.size W2 w3 := (Below.refl _ W2).drew.trans hb3
    have hb4 : Below W2.heap.size W2 (w3.alloc (.cells #[x] 26)) := hb3'.alloc hb3'.size _
    have HG2 := Lib.hid (fun w5 wv' r1 r2 r3 => book_grow2 (v := x) (w2 := w5) (wv' := wv') HB2.out.1 (by omega) hb4 r1 r2 r3)
    have HO2 := Lib.hid (own_below HB2.out.1.wr hb4)
    have HX := Lib.hid (And.intro hx hb3')
    have hx1 : Value.oneCell' x = true := by
      obtain ⟨Ax, cx, rfl, -⟩ := Sl.of_own hx
      rfl
    obtain ⟨Ax, cx, rfl, -⟩ := Sl.of_own hx
    clear hx hb3 hb3' hb4
    have c9w : w3.cell? ⟨g, 9, none⟩ = some (.slice Aw ws.length cw) := (HB2.out.1.blk.below' HX.out.2).cell 9
    have c9x : (w3.alloc (.cells #[.slice Ax n cx] 26)).cell? ⟨g, 9, none⟩ = some (.slice Aw ws.length cw) := ((HB2.out.1.blk.below' HX.out.2).alloc _).cell 9
    go_simp
    refine hK _ _ ?_
    clear hK K
    refine wpAny_ready (rs := [4, 7]) (by kernel_rfl) (by simp) (AllReady.cons (o := { dst := _, op := _, type := _, pos := _, after := _, guard := _ }) rfl (fun K hK => ?_) (AllReady.cons (o := { dst := _, op := _, type := _, pos := _, after := _, guard := _ }) rfl (fun K hK => ?_) AllReady.nil))
    · go_simp
      refine hK _ _ ?_
      clear hK K
      refine rd 7 (by kernel_rfl) rfl (fun K hK => ?_); go_simp; refine hK _ _ ?_; clear hK K
      refine rd 8 (by kernel_rfl) rfl (fun K hK => ?_); refine if_on rfl ?_
      go_must (refine wp_append_at _ _ 53 rfl B 26 i0 _ 1 24 Tryz.underlying53 hinf q0 q1 q2 rfl (by decide) _ ws.length ws rfl HO2.out ⟨w3.heap.size, 0, none⟩ 1 1 [.slice Ax n cx] rfl rfl (row_val _ _ _ _ rfl) (by simp [Value.oneCell']) (by unfold maxLen; omega) (by omega) (by have := HX.out.2.size; simp; omega) ?_)
      intro v5 w5 own5 hg5 hat5
      obtain ⟨z1, z2, hB5, hK5⟩ := HG2.out w5 v5 own5 hg5 (fun k e => (hat5 k e).elim .inl fun h => .inr (Nat.le_trans HX.out.2.size (Nat.le_of_succ_le (by simpa using h))))
      have HE : Hid (BookPairsP B g (.slice Ap ms.length cp) (.slice Aw ws.length cw) ms ws (.slice A n c) n l W (.returned (.tuple #[])) (w5.setCell ⟨g, 9, none⟩ v5)) := by
        refine ⟨rfl, _, _, _, hB5, ?_, HB2.out.2.trans hK5 fun i hi e => ?_⟩
        · have h1 := own_base HX.out.1 (show W.heap.size ≤ W2.drew.heap.size by exact hz2)
          have hk : Keeps (fun k => k = g ∨ (Value.slice Aw ws.length cw).ownBlock = some k) w3 (w5.setCell ⟨g, 9, none⟩ v5) :=
            ((((Keeps.refl (fun k => k = g ∨ (Value.slice Aw ws.length cw).ownBlock = some k) w3).alloc _).grown hg5 fun k e _ => .inr e)).setCell (p := ⟨g, 9, none⟩) (fun _ => .inl rfl) _
          refine own_keeps h1 hk fun k e hs => ?_
          have h2 := (HX.out.1.lt k e).1
          have h3 : W2.heap.size ≤ k := h2
          rcases hs with hs | hs
          · have := HB2.out.1.blk.lt; omega
          · have := (HB2.out.1.wr.lt k hs).2; omega
        · rcases e with e | e | e
          · exact .inl e
          · exact .inr (.inl (HAt.out i e hi))
          · exact .inr (.inr e)
      obtain ⟨A5, c5, rfl, -⟩ := Sl.of_own own5
      clear own5 hg5 hat5 hB5 hK5
      go_simp
      refine hK _ _ ?_
      clear hK K
      try simp only [Act.put, lT, l0, lS]
      refine tA 9 ?_; try simp only [Act.put, lT, l0, lS]
      refine tA 10 ?_; try simp only [Act.put, lT, l0, lS]
      refine rd 11 (by kernel_rfl) rfl (fun K hK => ?_); go_simp; refine hK _ _ ?_; clear hK K
      refine wpAny_done (by kernel_rfl) ?_ _
      go_wp2_with (fail)
      go_end0
      exact HE.out
    · go_simp
      refine hK _ _ ?_
      clear hK K
      refine rd 4 (by kernel_rfl) rfl (fun K hK => ?_); go_simp; refine hK _ _ ?_; clear hK K
      refine rd 8 (by kernel_rfl) rfl (fun K hK => ?_); refine if_on rfl ?_
      go_must (refine wp_append_at _ _ 53 rfl B 26 i0 _ 1 24 Tryz.underlying53 hinf q0 q1 q2 rfl (by decide) _ ws.length ws rfl HO2.out ⟨w3.heap.size, 0, none⟩ 1 1 [.slice Ax n cx] rfl rfl (row_val _ _ _ _ rfl) (by simp [Value.oneCell']) (by unfold maxLen; omega) (by omega) (by have := HX.out.2.size; simp; omega) ?_)
      intro v5 w5 own5 hg5 hat5
      obtain ⟨z1, z2, hB5, hK5⟩ := HG2.out w5 v5 own5 hg5 (fun k e => (hat5 k e).elim .inl fun h => .inr (Nat.le_trans HX.out.2.size (Nat.le_of_succ_le (by simpa using h))))
      have HE : Hid (BookPairsP B g (.slice Ap ms.length cp) (.slice Aw ws.length cw) ms ws (.slice A n c) n l W (.returned (.tuple #[])) (w5.setCell ⟨g, 9, none⟩ v5)) := by
        refine ⟨rfl, _, _, _, hB5, ?_, HB2.out.2.trans hK5 fun i hi e => ?_⟩
        · have h1 := own_base HX.out.1 (show W.heap.size ≤ W2.drew.heap.size by exact hz2)
          have hk : Keeps (fun k => k = g ∨ (Value.slice Aw ws.length cw).ownBlock = some k) w3 (w5.setCell ⟨g, 9, none⟩ v5) :=
            ((((Keeps.refl (fun k => k = g ∨ (Value.slice Aw ws.length cw).ownBlock = some k) w3).alloc _).grown hg5 fun k e _ => .inr e)).setCell (p := ⟨g, 9, none⟩) (fun _ => .inl rfl) _
          refine own_keeps h1 hk fun k e hs => ?_
          have h2 := (HX.out.1.lt k e).1
          have h3 : W2.heap.size ≤ k := h2
          rcases hs with hs | hs
          · have := HB2.out.1.blk.lt; omega
          · have := (HB2.out.1.wr.lt k hs).2; omega
        · rcases e with e | e | e
          · exact .inl e
          · exact .inr (.inl (HAt.out i e hi))
          · exact .inr (.inr e)
      obtain ⟨A5, c5, rfl, -⟩ := Sl.of_own own5
      clear own5 hg5 hat5 hB5 hK5
      go_simp
      refine hK _ _ ?_
      clear hK K
      try simp only [Act.put, lT, l0, lS]
      refine tA 9 ?_; try simp only [Act.put, lT, l0, lS]
      refine tA 10 ?_; try simp only [Act.put, lT, l0, lS]
      refine rd 11 (by kernel_rfl) rfl (fun K hK => ?_); go_simp; refine hK _ _ ?_; clear hK K
      refine wpAny_done (by kernel_rfl) ?_ _
      go_wp2_with (fail)
      go_end0
      exact HE.out
end
end Go.Ev

set_option linter.unusedVariables false
set_option linter.unusedSimpArgs false
namespace Go.Ev
open Go.Proofs Go.RowKit

theorem bytes_beq (a b : Bytes) : ((⟨a.toArray⟩ : ByteArray) == ⟨b.toArray⟩) = decide (a = b) := by
  show (a.toArray == b.toArray) = decide (a = b)
  rw [Bool.eq_iff_iff]
  simp

set_option maxHeartbeats 2000000 in
set_option maxRecDepth 100000 in
theorem samePairs_any (A B : Option Addr) (n m c d : Nat) (a b : List Pair) (w : World) (ha : Sl w 2 (.slice A n c) n (pairsCs a)) (hb : Sl w 2 (.slice B m d) m (pairsCs b)) (hn : n ≤ 1000000) (hm : m ≤ 1000000) :
    Calls Tryz.prog 12 #[.slice A n c, .slice B m d] w fun e w' => e = .returned (.bool (decide (a = b))) ∧ Below w.heap.size w w' := by
  have hla : n = a.length := by obtain ⟨_, _, _, _, h1, _⟩ := ha; rw [pairsCs_len] at h1; omega
  have hlb : m = b.length := by obtain ⟨_, _, _, _, h1, _⟩ := hb; rw [pairsCs_len] at h1; omega
  subst hla hlb
  by_cases hl : a.length = b.length
  · have hl' : ((a.length : Int) != (b.length : Int)) = false := by simp [hl]
    have HL := Lib.hid hl
    go_enter Tryz.func12, Tryz.ntmps12
    clear hl
    go_wp2_with (fail)
    go_loopg [5] a.length (fun gk s5 wr => ∃ i : Nat, s5 = .int .i64 (i : Int) ∧ i + gk = a.length ∧ Hid (a.take i = b.take i) ∧ Below w.heap.size w wr)
    case atStart => exact ⟨0, rfl, by omega, rfl, Below.refl _ _⟩
    case round =>
      obtain ⟨i, rfl, hi, hsame, hbw⟩ := hrel
      by_cases h1 : i < a.length
      · have h1' : (i : Int) < (a.length : Int) := by omega
        have h2 : i < b.length := by have := HL.out; omega
        have h2' : (i : Int) < (b.length : Int) := by omega
        have hi0 : (0 : Int) ≤ (i : Int) := by omega
        have hw1 : IntKind.i64.wrap ((i : Int) + 1) = (i : Int) + 1 := IntWalk.i64_in _ (by omega)
        obtain ⟨_, _, e0, _, _, hcl⟩ := ha.below hbw
        cases e0
        obtain ⟨ba, oa, rfl, _, hca⟩ := hcl (by omega)
        obtain ⟨_, _, e0, _, _, hcl2⟩ := hb.below hbw
        cases e0
        obtain ⟨bb, ob, rfl, _, hcb⟩ := hcl2 (by omega)
        obtain ⟨p1, p2⟩ := pairsCs_at a i h1
        obtain ⟨p3, p4⟩ := pairsCs_at b i h2
        have x1 : wr.cell? ⟨ba, oa + i * 2, none⟩ = _ := hca _ _ p1
        have x2 : wr.cell? ⟨ba, oa + i * 2 + 1, none⟩ = _ := hca _ _ p2
        have x3 : wr.cell? ⟨bb, ob + i * 2, none⟩ = _ := hcb _ _ p3
        have x4 : wr.cell? ⟨bb, ob + i * 2 + 1, none⟩ = _ := hcb _ _ p4
        have HSt : Hid (a[i] = b[i] → a.take (i + 1) = b.take (i + 1)) := fun e => by
          rw [List.take_succ_eq_append_getElem h1, List.take_succ_eq_append_getElem h2, hsame.out, e]
        have HNe : Hid (a[i] ≠ b[i] → decide (a = b) = false) := fun e => by
          refine decide_eq_false fun e2 => e ?_
          subst e2; rfl
        clear p1 p2 p3 p4 hca hcb hcl hcl2 ha hb
        generalize a[i] = qa at *
        generalize b[i] = qb at *
        obtain ⟨k1, v1⟩ := qa
        obtain ⟨k2, v2⟩ := qb
        have hk := bytes_beq k1 k2
        have hv := bytes_beq v1 v2
        by_cases he : k1 = k2 ∧ v1 = v2
        · obtain ⟨rfl, rfl⟩ := he
          clear hk hv
          go_wp2_with (fail)
          refine wp_region_any (by kernel_rfl) ?_
          change wpAny _ _ _ _ _ _ _ (World.drew _)
          try simp only [Act.put, lT, l0, lS]
          refine tA 0 ?_; try simp only [Act.put, lT, l0, lS]
          refine tA 1 ?_; try simp only [Act.put, lT, l0, lS]
          refine tA 2 ?_; try simp only [Act.put, lT, l0, lS]
          refine tA 4 ?_; try simp only [Act.put, lT, l0, lS]
          refine tA 5 ?_; try simp only [Act.put, lT, l0, lS]
          refine tA 6 ?_; try simp only [Act.put, lT, l0, lS]
          try simp only [Act.put, lT, l0, lS]
          refine rA 3 (v := ?_) (hy := ?hy) ?_; case hy => (intro w hE; have q0 := hE.cell x1; have q1 := hE.cell x2; go_simp; try with_reducible rfl)
          try simp only [Act.put, lT, l0, lS]
          try simp only [Act.put, lT, l0, lS]
          refine rA 7 (v := ?_) (hy := ?hy) ?_; case hy => (intro w hE; have q0 := hE.cell x3; have q1 := hE.cell x4; go_simp; try with_reducible rfl)
          try simp only [Act.put, lT, l0, lS]
          refine rd 8 (by kernel_rfl) rfl (fun K hK => ?_); go_simp; refine hK _ _ ?_; clear hK K
          refine rd 9 (by kernel_rfl) rfl (fun K hK => ?_); go_simp; refine hK _ _ ?_; clear hK K
          refine wpAny_done (by kernel_rfl) ?_ _
          go_wp2_with (fail)
          go_roundg (gk - 1)
          case measure => omega
          case rel => exact ⟨i + 1, by simp, by omega, HSt.out (by first | rfl | trivial), hbw.drew⟩
        · have HF : Hid (decide (a = b) = false) := HNe.out fun e => he (by simpa using e)
          by_cases hkk : k1 = k2
          · have hvv : ¬ v1 = v2 := fun e => he ⟨hkk, e⟩
            subst hkk
            rw [decide_eq_false hvv] at hv
            clear hk he
            go_wp2_with (fail)
            refine wp_region_any (by kernel_rfl) ?_
            change wpAny _ _ _ _ _ _ _ (World.drew _)
            try simp only [Act.put, lT, l0, lS]
            refine tA 0 ?_; try simp only [Act.put, lT, l0, lS]
            refine tA 1 ?_; try simp only [Act.put, lT, l0, lS]
            refine tA 2 ?_; try simp only [Act.put, lT, l0, lS]
            refine tA 4 ?_; try simp only [Act.put, lT, l0, lS]
            refine tA 5 ?_; try simp only [Act.put, lT, l0, lS]
            refine tA 6 ?_; try simp only [Act.put, lT, l0, lS]
            try simp only [Act.put, lT, l0, lS]
            refine rA 3 (v := ?_) (hy := ?hy) ?_; case hy => (intro w hE; have q0 := hE.cell x1; have q1 := hE.cell x2; go_simp; try with_reducible rfl)
            try simp only [Act.put, lT, l0, lS]
            try simp only [Act.put, lT, l0, lS]
            refine rA 7 (v := ?_) (hy := ?hy) ?_; case hy => (intro w hE; have q0 := hE.cell x3; have q1 := hE.cell x4; go_simp; try with_reducible rfl)
            try simp only [Act.put, lT, l0, lS]
            refine rd 8 (by kernel_rfl) rfl (fun K hK => ?_); go_simp; refine hK _ _ ?_; clear hK K
            refine rd 9 (by kernel_rfl) rfl (fun K hK => ?_); go_simp; refine hK _ _ ?_; clear hK K
            refine wpAny_done (by kernel_rfl) ?_ _
            go_wp2_with (fail)
            go_ret
            exact ⟨by rw [HF.out] <;> rfl, hbw.drew⟩
          · rw [decide_eq_false hkk] at hk
            clear he
            go_wp2_with (fail)
            refine wp_region_any (by kernel_rfl) ?_
            change wpAny _ _ _ _ _ _ _ (World.drew _)
            try simp only [Act.put, lT, l0, lS]
            refine tA 0 ?_; try simp only [Act.put, lT, l0, lS]
            refine tA 1 ?_; try simp only [Act.put, lT, l0, lS]
            refine tA 2 ?_; try simp only [Act.put, lT, l0, lS]
            refine tA 4 ?_; try simp only [Act.put, lT, l0, lS]
            refine tA 5 ?_; try simp only [Act.put, lT, l0, lS]
            refine tA 6 ?_; try simp only [Act.put, lT, l0, lS]
            try simp only [Act.put, lT, l0, lS]
            refine rA 3 (v := ?_) (hy := ?hy) ?_; case hy => (intro w hE; have q0 := hE.cell x1; have q1 := hE.cell x2; go_simp; try with_reducible rfl)
            try simp only [Act.put, lT, l0, lS]
            try simp only [Act.put, lT, l0, lS]
            refine rA 7 (v := ?_) (hy := ?hy) ?_; case hy => (intro w hE; have q0 := hE.cell x3; have q1 := hE.cell x4; go_simp; try with_reducible rfl)
            try simp only [Act.put, lT, l0, lS]
            refine rd 8 (by kernel_rfl) rfl (fun K hK => ?_); go_simp; refine hK _ _ ?_; clear hK K
            refine rd 9 (by kernel_rfl) rfl (fun K hK => ?_); go_simp; refine hK _ _ ?_; clear hK K
            refine wpAny_done (by kernel_rfl) ?_ _
            go_wp2_with (fail)
            go_ret
            exact ⟨by rw [HF.out] <;> rfl, hbw.drew⟩
      · have h1' : ¬ (i : Int) < (a.length : Int) := by omega
        have HE : Hid (decide (a = b) = true) := by
          have hii : i = a.length := by omega
          have h3 := hsame.out
          have h4 := HL.out
          rw [hii, List.take_length, h4, List.take_length] at h3
          exact decide_eq_true h3
        clear ha hb hsame
        go_wp2_with (fail)
        go_ret
        exact ⟨by rw [HE.out] <;> rfl, hbw⟩
  · have hl' : ((a.length : Int) != (b.length : Int)) = true := by
      simp only [bne_iff_ne, ne_eq]
      omega
    have HE : Hid (decide (a = b) = false) := decide_eq_false fun e => hl (by rw [e])
    clear hl ha hb
    go_enter Tryz.func12, Tryz.ntmps12
    go_wp2_with (fail)
    go_ret
    exact ⟨by rw [HE.out] <;> rfl, Below.refl _ _⟩
end Go.Ev
