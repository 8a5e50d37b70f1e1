/-
  A device, free pages and a pager are made anew. A pager of a first transaction is made anew; law 11's Begin. A pager of a first transaction is made anew; law 11's Begin. The document's own tree: its order, where a key is, a pair put in. The document's own tree: a pair put in. Are two lists of pairs alike?
-/
import Derived.Test.YtgfmhppkmogdhaaGreatDoorMRGwSeal
import Derived.Test.YtgfmhppkmogdhaaGreatDoorMRGwMake
import Derived.Test.YtgfmhppkmogdhaaGreatDoorMRGvTree
import Derived.Carry
import Derived.Test.YtgfmhppkmogdhaaGreatDoorMREvInsert
import Derived.Test.YtgfmhppkmogdhaaGreatDoorMRGvCurs
import Derived.Test.YtgfmhppkmogdhaaGreatDoorMRGwReplace
import Derived.Test.YtgfmhppkmogdhaaGreatDoorMRGwPick
set_option linter.unusedVariables false
set_option linter.unusedSimpArgs false
set_option linter.unusedVariables false
set_option linter.unusedSimpArgs false
namespace Go.Ev
open Go.Proofs Go.RowKit

theorem devNew_any (most : Nat) (w : World) (h1 : 1 ≤ most) (h2 : most ≤ 3000) :
    Calls Tryz.prog 109 #[.int .i64 most] w fun e w' => e = .returned (.tuple #[ptrV w.heap.size, .int .i64 0]) ∧
      w.alloc (.cells #[.int .i64 most, .bool true, .bool false, .int .i64 0, .slice none 0 0, .slice none 0 0, .chan none] 260) = w' := by
  have g1 : ¬ (most : Int) < 1 := by omega
  have g2 : ¬ (3000 : Int) < (most : Int) := by omega
  go_enter Tryz.func109, Tryz.ntmps109
  go_wp2
  go_ret2
  exact ⟨rfl, rfl⟩

theorem DevAt.new (most : Nat) (w : World) (h2 : most ≤ 3000) :
    DevAt (w.alloc (.cells #[.int .i64 most, .bool true, .bool false, .int .i64 0, .slice none 0 0, .slice none 0 0, .chan none] 260)) w.heap.size most 0 (.slice none 0 0) (.slice none 0 0) :=
  ⟨Blk.new _ _ _, ⟨_, World.ownsRow_nil _ _ _ _⟩, ⟨_, World.ownsRow_nil _ _ _ _⟩, fun k h => (by cases h), ⟨by omega, by omega⟩⟩

theorem refNew_any (most : Nat) (w : World) (h1 : 1 ≤ most) (h2 : most ≤ 3000) :
    Calls Tryz.prog 110 #[.int .i64 most] w fun e w' => e = .returned (.tuple #[ptrV w.heap.size, .int .i64 0]) ∧ w.alloc (.cells (refDev most) 263) = w' := by
  have g1 : ¬ (most : Int) < 1 := by omega
  have g2 : ¬ (3000 : Int) < (most : Int) := by omega
  go_enter Tryz.func110, Tryz.ntmps110
  go_wp2
  go_ret2
  exact ⟨rfl, rfl⟩

theorem freePut_any (b : Nat) (w : World) :
    Calls Tryz.prog 222 #[ptrV b, .slice none 0 0] w fun e w' => e = .returned (.tuple #[]) ∧ w' = w := by
  go_enter Tryz.func222, Tryz.ntmps222
  go_wp2
  go_loopg [10] 0 (fun gk s10 wr => s10 = .int .i64 0 ∧ wr = w)
  case atStart => exact ⟨rfl, rfl⟩
  case round =>
    obtain ⟨rfl, rfl⟩ := hrel
    go_wp2_with (fail)
    refine bodyPost_end (results_none rfl _ _ _) rfl ?_
    exact ⟨rfl, rfl⟩

theorem freeNew_any (w : World) :
    Calls Tryz.prog 113 #[.slice none 0 0] w fun e w' => e = .returned (ptrV w.heap.size) ∧ w.alloc (.cells #[.slice none 0 0, .slice none 0 0, .map none] 274) = w' := by
  have hB : ∀ W : World, Calls Tryz.prog 173 #[ptrV w.heap.size, .slice none 0 0] W fun e w' => e = .returned (.tuple #[]) ∧ w' = W := by
    intro W
    go_enter Tryz.func173, Tryz.ntmps173
    go_wp2_with (fail)
    go_must (refine (freePut_any _ _).mono ?_)
    rintro e w1 ⟨rfl, rfl⟩
    go_wp2
    refine bodyPost_end (results_none rfl _ _ _) rfl ?_
    exact ⟨rfl, rfl⟩
  go_enter Tryz.func113, Tryz.ntmps113
  go_wp2_with (fail)
  go_must (refine (hB _).mono ?_)
  rintro e w1 ⟨rfl, rfl⟩
  go_wp2
  go_ret
  exact ⟨rfl, rfl⟩
end Go.Ev

set_option linter.unusedVariables false
set_option linter.unusedSimpArgs false
namespace Go.Ev
open Go.Proofs Go.RowKit

set_option maxRecDepth 100000 in
theorem cloneNil_any (w : World) : Calls Tryz.prog 224 #[.slice none 0 0] w fun e w' => e = .returned (.slice none 0 0) ∧ w = w' := by
  have q22 : ∀ (w : World) (a : Option Addr) (n c n' c' : Nat), (binOp .eql 89 (.slice a n c) (.slice none n' c')).run Tryz.prog w = .ok (.bool a.isNone) w := fun w a n c n' c' => Lib.run_eql_slice_nil w _ 3 a n c n' c' Tryz.underlying89
  go_enter Tryz.func224, Tryz.ntmps224
  go_wp2
  go_ret
  exact ⟨rfl, rfl⟩

theorem heapInit_nil (b : Nat) (w : World) (h : w.cell? ⟨b, 0, none⟩ = some (.slice none 0 0)) :
    Calls Tryz.prog 225 #[.iface 329 (.pointer (some ⟨b, 0, none⟩))] w fun e w' => e = .returned (.tuple #[]) ∧ w = w' := by
  have hm := m_len b _ w h
  go_enter Tryz.func225, Tryz.ntmps225
  go_wp2_with (fail)
  go_must (refine (lenN_any _ _ _ _).mono ?_)
  rintro e w2 ⟨rfl, rfl⟩
  go_wp2_with (fail)
  go_loopg [3] 0 (fun gk s3 wr => s3 = .int .i64 (-1) ∧ wr = w2)
  case atStart => exact ⟨rfl, rfl⟩
  case round =>
    obtain ⟨rfl, rfl⟩ := hrel
    go_wp2_with (fail)
    refine bodyPost_end (results_none rfl _ _ _) rfl ?_
    exact ⟨rfl, rfl⟩

theorem pileNew_any (w : World) :
    Calls Tryz.prog 177 #[.slice none 0 0] w fun e w' => e = .returned (ptrV w.heap.size) ∧ w.alloc (.cells #[.slice none 0 0] 270) = w' := by
  have hb : Blk (w.alloc (.cells #[.slice none 0 0] 270)) w.heap.size 270 #[.slice none 0 0] := Blk.new _ _ _
  have hI := Lib.hid (heapInit_nil w.heap.size _ (hb.cell 0))
  clear hb
  go_enter Tryz.func177, Tryz.ntmps177
  go_wp2_with (fail)
  go_must (refine (cloneNil_any _).mono ?_)
  rintro e w1 ⟨rfl, rfl⟩
  go_wp2_with (fail)
  go_must (refine hI.out.mono ?_)
  rintro e w2 ⟨rfl, rfl⟩
  go_wp2
  go_ret
  exact ⟨rfl, rfl⟩

/-- A pager without its maps and its pile. -/
def pg0 (d f : Nat) : Array Value := #[ptrV d, ptrV f, .int .i64 2, .int .i64 2, .int .i64 1, .map none, .map none, .map none, .pointer none]

def ClearP (p d f : Nat) (w : World) (e : Ending) (w' : World) : Prop :=
  e = .returned (.tuple #[]) ∧ ∃ mb db wb sb, Blk w' p 169 #[ptrV d, ptrV f, .int .i64 2, .int .i64 2, .int .i64 1, .map (some mb), .map (some db), .map (some wb), ptrV sb] ∧ MapI w' mb [] 0 ∧ MapI w' db [] 0 ∧ MapI w' wb [] 0 ∧ Pl w' sb (.slice none 0 0) [] ∧
    w.heap.size ≤ mb ∧ mb < db ∧ db < wb ∧ wb < sb ∧ Keeps (fun k => k = p) w w'

theorem MapI.newM (w : World) : MapI (w.alloc (.map #[] 0)) w.heap.size [] 0 := heap_alloc_new w _

theorem MapI.allocM {w : World} {b c : Nat} {l : List Ent} (h : MapI w b l c) (o : Obj) : MapI (w.alloc o) b l c := h.keeps (S := fun _ => False) (Keeps.of_below ((Below.refl _ w).alloc (Nat.le_refl _) o)) fun h => h
theorem MapI.setM {w : World} {b c : Nat} {l : List Ent} (h : MapI w b l c) {q : Addr} (hq : b ≠ q.block) (u : Value) : MapI (w.setCell q u) b l c := h.keeps (S := fun k => k = q.block) ((Keeps.refl (fun k => k = q.block) w).setCell (fun _ => rfl) u) hq

theorem pl_new (w : World) : Pl (w.alloc (.cells #[.slice none 0 0] 270)) w.heap.size (.slice none 0 0) [] := by
  have hb : Blk (w.alloc (.cells #[.slice none 0 0] 270)) w.heap.size 270 #[.slice none 0 0] := Blk.new _ _ _
  exact ⟨hb.cell 0, hb.frozen 0, hb.lt, World.ownsRow_nil _ _ _ _, by simp [Value.ownBlock]⟩

theorem clear_end {p d f : Nat} {w w1 w2 w3 w4 : World} (h : Blk w p 169 (pg0 d f)) (e1 : w.alloc (.map #[] 0) = w1) (e2 : w1.alloc (.map #[] 0) = w2) (e3 : w2.alloc (.map #[] 0) = w3) (e4 : w3.alloc (.cells #[.slice none 0 0] 270) = w4) :
    ClearP p d f w (.returned (.tuple #[])) ((((w4.setCell ⟨p, 5, none⟩ (.map (some w.heap.size))).setCell ⟨p, 6, none⟩ (.map (some w1.heap.size))).setCell ⟨p, 7, none⟩ (.map (some w2.heap.size))).setCell ⟨p, 8, none⟩ (ptrV w3.heap.size)) := by
  have hp := h.lt
  have z1 : w1.heap.size = w.heap.size + 1 := by subst e1; simp
  have z2 : w2.heap.size = w.heap.size + 2 := by subst e2; simp [z1]
  have z3 : w3.heap.size = w.heap.size + 3 := by subst e3; simp [z2]
  have hb : Blk w4 p 169 (pg0 d f) := by subst e4 e3 e2 e1; exact (((h.alloc _).alloc _).alloc _).alloc _
  have K : Keeps (fun k => k = p) w4 ((((w4.setCell ⟨p, 5, none⟩ (.map (some w.heap.size))).setCell ⟨p, 6, none⟩ (.map (some w1.heap.size))).setCell ⟨p, 7, none⟩ (.map (some w2.heap.size))).setCell ⟨p, 8, none⟩ (ptrV w3.heap.size)) :=
    ((((Keeps.refl (fun k => k = p) w4).setCell (p := ⟨p, 5, none⟩) (fun _ => rfl) _).setCell (p := ⟨p, 6, none⟩) (fun _ => rfl) _).setCell (p := ⟨p, 7, none⟩) (fun _ => rfl) _).setCell (p := ⟨p, 8, none⟩) (fun _ => rfl) _
  have K0 : Keeps (fun k => k = p) w w4 := by subst e4 e3 e2 e1; exact ((((Keeps.refl _ w).alloc _).alloc _).alloc _).alloc _
  have m1 : MapI w4 w.heap.size [] 0 := by subst e4 e3 e2 e1; exact (((MapI.newM w).allocM _).allocM _).allocM _
  have m2 : MapI w4 w1.heap.size [] 0 := by subst e4 e3 e2; exact ((MapI.newM w1).allocM _).allocM _
  have m3 : MapI w4 w2.heap.size [] 0 := by subst e4 e3; exact (MapI.newM w2).allocM _
  have m4 : Pl w4 w3.heap.size (.slice none 0 0) [] := by subst e4; exact pl_new w3
  refine ⟨rfl, w.heap.size, w1.heap.size, w2.heap.size, w3.heap.size, ?_, m1.keeps K (by omega), m2.keeps K (by omega), m3.keeps K (by omega), m4.keeps K (by omega) (fun k e => by cases e), by omega, by omega, by omega, by omega, K0.trans K fun _ _ e => e⟩
  exact (((hb.set 5 _).set 6 _).set 7 _).set 8 _

set_option maxHeartbeats 1000000 in
theorem clear_any (p d f : Nat) (w : World) (h : Blk w p 169 (pg0 d f)) : Calls Tryz.prog 119 #[ptrV p] w (ClearP p d f w) := by
  have hp := h.lt
  obtain ⟨w1, e1⟩ : ∃ w1, w.alloc (.map #[] 0) = w1 := ⟨_, rfl⟩
  obtain ⟨w2, e2⟩ : ∃ w2, w1.alloc (.map #[] 0) = w2 := ⟨_, rfl⟩
  obtain ⟨w3, e3⟩ : ∃ w3, w2.alloc (.map #[] 0) = w3 := ⟨_, rfl⟩
  obtain ⟨w4, e4⟩ : ∃ w4, w3.alloc (.cells #[.slice none 0 0] 270) = w4 := ⟨_, rfl⟩
  have hb : Blk w4 p 169 (pg0 d f) := by subst e4 e3 e2 e1; exact (((h.alloc _).alloc _).alloc _).alloc _
  have HE := Lib.hid (clear_end h e1 e2 e3 e4)
  have f5 := hb.frozen 5
  have f6 := hb.frozen 6
  have f7 := hb.frozen 7
  have f8 := hb.frozen 8
  have c5 : w4.cell? ⟨p, 5, none⟩ = some (.map none) := hb.cell 5
  have c6 : w4.cell? ⟨p, 6, none⟩ = some (.map none) := hb.cell 6
  have c7 : w4.cell? ⟨p, 7, none⟩ = some (.map none) := hb.cell 7
  have c8 : w4.cell? ⟨p, 8, none⟩ = some (.pointer none) := hb.cell 8
  have hN := Lib.hid (pileNew_any w3)
  rw [e4] at hN
  subst e1 e2 e3
  clear e4 hb h
  have hMM : ∀ (t : TypeId) (W : World), (Instr.makeMap t none).run Tryz.prog W = .ok (.map (some W.heap.size)) (W.alloc (.map #[] 0)) := fun t W => run_makeMap t W
  go_enter Tryz.func119, Tryz.ntmps119
  go_wp2_with (fail)
  go_must (refine hN.out.mono ?_)
  rintro e w5 ⟨rfl, rfl⟩
  go_wp2_with (fail)
  go_end0
  have hE := HE.out
  simp only [World.size_alloc] at hE
  exact hE

set_option maxRecDepth 100000 in
theorem listNil_any (f : Nat) (w : World) (h : w.cell? ⟨f, 0, none⟩ = some (.slice none 0 0)) :
    Calls Tryz.prog 176 #[ptrV f] w fun e w' => e = .returned (.slice none 0 0) ∧ Below w.heap.size w w' := by
  go_enter Tryz.func176, Tryz.ntmps176
  have hV : Calls Tryz.prog 223 #[.slice none 0 0] w fun e w' => e = .returned (.func (.func 269) #[] #[.pointer (some ⟨w.heap.size, 0, none⟩)]) ∧ w.alloc (.cells #[.slice none 0 0] 268) = w' := by
    go_enter Tryz.func223, Tryz.ntmps223
    go_wp2
    go_ret
    exact ⟨rfl, rfl⟩
  go_wp2_with (fail)
  go_must (refine hV.mono ?_)
  rintro e w1 ⟨rfl, rfl⟩
  go_wp2_with (fail)
  go_must (refine (sorted_nil (Blk.new _ _ _)).mono ?_)
  rintro e w2 ⟨rfl, hk⟩
  go_wp2_with (fail)
  go_ret
  refine ⟨rfl, ((Below.refl _ w).alloc (Nat.le_refl _) _).trans (hk.below (by simp) fun i hi e => by omega)⟩

set_option maxRecDepth 100000 in
set_option maxHeartbeats 2000000 in
theorem freeAll_any (f : Nat) (w : World) (h : Blk w f 274 #[.slice none 0 0, .slice none 0 0, .map none]) :
    Calls Tryz.prog 117 #[ptrV f] w fun e w' => e = .returned (.slice none 0 0) ∧ Below w.heap.size w w' := by
  have hL := Lib.hid (listNil_any f w (h.cell 0))
  have hlt := h.lt
  have g1 : w.cell? ⟨f, 1, none⟩ = some (.slice none 0 0) := h.cell 1
  clear h
  go_enter Tryz.func117, Tryz.ntmps117
  go_wp2_with (fail)
  go_must (refine hL.out.mono ?_)
  rintro e w1 ⟨rfl, hb⟩
  have g1' : w1.cell? ⟨f, 1, none⟩ = some (.slice none 0 0) := (hb.cell (p := ⟨f, 1, none⟩) hlt).trans g1
  go_wp2_with (fail)
  go_loopg [3, 17] 0 (fun gk s3 s17 wr => s3 = .slice none 0 0 ∧ s17 = .int .i64 0 ∧ wr = w1)
  case atStart => exact ⟨rfl, rfl, rfl⟩
  case round =>
    obtain ⟨rfl, rfl, rfl⟩ := hrel
    go_wp2_with (fail)
    go_must (refine (sort_nil _).mono ?_)
    rintro e w2 ⟨rfl, hb2⟩
    go_wp2_with (fail)
    go_ret
    exact ⟨rfl, hb.trans (hb2.mono hb.size)⟩

set_option maxRecDepth 100000 in
theorem indexNil_any (F : Value) (w : World) : Calls Tryz.prog 175 #[.slice none 0 0, F] w fun e w' => e = .returned (.int .i64 (-1)) ∧ w = w' := by
  go_enter Tryz.func175, Tryz.ntmps175
  go_wp2_with (fail)
  go_loopg [8] 0 (fun gk s8 wr => s8 = .int .i64 0 ∧ wr = w)
  case atStart => exact ⟨rfl, rfl⟩
  case round =>
    obtain ⟨rfl, rfl⟩ := hrel
    go_wp2_with (fail)
    go_ret
    exact ⟨rfl, rfl⟩

set_option maxRecDepth 100000 in
theorem containsNil_any (F : Value) (w : World) : Calls Tryz.prog 116 #[.slice none 0 0, F] w fun e w' => e = .returned (.bool false) ∧ w = w' := by
  go_enter Tryz.func116, Tryz.ntmps116
  go_wp2_with (fail)
  go_must (refine (indexNil_any _ _).mono ?_)
  rintro e w1 ⟨rfl, rfl⟩
  go_wp2
  go_ret
  exact ⟨rfl, rfl⟩
end Go.Ev

set_option linter.unusedVariables false
set_option linter.unusedSimpArgs false
namespace Go.Ev
open Go.Proofs Go.RowKit

theorem pgInv_new : PgInv 2 [] [] [] := by
  refine ⟨List.nodup_nil, List.nodup_nil, List.nodup_nil, fun k => Iff.rfl, fun k => ⟨fun h => by omega, fun h => by rcases h with h | h <;> cases h⟩, (fun k h => by cases h), (fun k v h => by cases h), Nat.le_refl _, (fun k v h => by cases h)⟩

theorem pages_new : Pages [] (fun _ => none) := fun _ => rfl

theorem pgOk_new {m : Nat} (hm : 4 ≤ m ∧ m ≤ 3000) {w : World} {p d f mb db wb sb B : Nat} {sy nw : Value} (h : Blk w p 169 #[ptrV d, ptrV f, .int .i64 2, .int .i64 2, .int .i64 1, .map (some mb), .map (some db), .map (some wb), ptrV sb])
    (hf : Blk w f 274 #[.slice none 0 0, .slice none 0 0, .map none]) (hd : DevAt w d m 2 sy nw) (m1 : MapI w mb [] 0) (m2 : MapI w db [] 0) (m3 : MapI w wb [] 0) (hs : Pl w sb (.slice none 0 0) [])
    (hdB : d < B) (hfB : f < B) (hsy : ∀ k, sy.ownBlock = some k → k < B) (hnw : ∀ k, nw.ownBlock = some k → k < B) (hp : B ≤ p) (h1 : p < mb) (h2 : mb < db) (h3 : db < wb) (h4 : wb < sb) :
    PgOk w p ⟨d, f, mb, db, wb, sb, .slice none 0 0, sy, nw⟩ m (fun _ => none) 0 := by
  have hdf : d ≠ f := by
    rintro rfl
    have := (hd.blk.eq hf).1
    revert this
    decide
  have hsyd : ∀ k, sy.ownBlock = some k → k ≠ d ∧ k ≠ f := fun k e => by
    obtain ⟨cs, hr⟩ := hd.srow
    exact ⟨own_ne hr hd.blk (by decide) k e, own_ne hr hf (by decide) k e⟩
  have hnwd : ∀ k, nw.ownBlock = some k → k ≠ d ∧ k ≠ f := fun k e => by
    obtain ⟨cs, hr⟩ := hd.nrow
    exact ⟨own_ne hr hd.blk (by decide) k e, own_ne hr hf (by decide) k e⟩
  refine ⟨2, [], [], 0, 0, 0, [], ⟨h, hf, hd, m1, m2, m3, hs, ?_, ?_, ?_, ?_, Nat.le_refl _, by omega⟩, pgInv_new, pages_new, rfl⟩
  · simp only [Pc.ids, List.nodup_cons, List.mem_cons, List.not_mem_nil, or_false, not_or, List.nodup_nil, not_false_eq_true, and_true]
    refine ⟨⟨?_, ?_, ?_, ?_, ?_, ?_⟩, ⟨hdf, ?_, ?_, ?_, ?_⟩, ⟨?_, ?_, ?_, ?_⟩, ⟨?_, ?_, ?_⟩, ⟨?_, ?_⟩, ?_⟩ <;> omega
  · intro k e; cases e
  · intro k e hm
    have a := hsyd k e
    have b := hsy k e
    simp only [Pc.ids, List.mem_cons, List.not_mem_nil, or_false] at hm
    rcases hm with hm | hm | hm | hm | hm | hm | hm <;> omega
  · intro k e hm
    have a := hnwd k e
    have b := hnw k e
    simp only [Pc.ids, List.mem_cons, List.not_mem_nil, or_false] at hm
    rcases hm with hm | hm | hm | hm | hm | hm | hm <;> omega

def PNewP (m d f : Nat) (sy nw : Value) (w : World) (e : Ending) (w' : World) : Prop :=
  ∃ p c, e = .returned (.tuple #[ptrV p, .int .i64 0]) ∧ PgOk w' p c m (fun _ => none) 0 ∧ (∀ k, c.S p k → k = d ∨ k = f ∨ sy.ownBlock = some k ∨ nw.ownBlock = some k ∨ w.heap.size ≤ k) ∧ Below w.heap.size w w'

theorem pnew_end {m : Nat} (hm : 4 ≤ m ∧ m ≤ 3000) {d f p : Nat} {sy nw : Value} {w w1 w2 w3 : World} (hd : DevAt w d m 2 sy nw) (hf : Blk w f 274 #[.slice none 0 0, .slice none 0 0, .map none]) (h1 : Below w.heap.size w w1) (hp : p = w1.heap.size) (e2 : w1.alloc (.cells (pg0 d f) 169) = w2) {e : Ending} (hc : ClearP p d f w2 e w3) :
    PNewP m d f sy nw w (.returned (.tuple #[ptrV p, .int .i64 0])) w3 := by
  have hb2 : Below w.heap.size w w2 := by subst e2; exact h1.alloc h1.size _
  have z2 : w2.heap.size = w1.heap.size + 1 := by subst e2; simp
  have hz := h1.size
  obtain ⟨_, mb, db, wb, sb, k1, k2, k3, k4, k5, k6, k7, k8, k9, kK⟩ := hc
  have hb3 : Below w.heap.size w w3 := hb2.trans (kK.below (by omega) (fun i hi e => by omega))
  have hd3 : DevAt w3 d m 2 sy nw := hd.keeps (S := fun _ => False) (Keeps.of_below hb3) fun _ _ h => h
  have hf3 := hf.below' hb3
  refine ⟨p, _, rfl, pgOk_new hm (B := w.heap.size) k1 hf3 hd3 k2 k3 k4 k5 hd.blk.lt hf.lt ?_ ?_ (by omega) (by omega) k7 k8 k9, ?_, hb3⟩
  · intro k e; obtain ⟨cs, hr⟩ := hd.srow; exact (hr.lt k e).2
  · intro k e; obtain ⟨cs, hr⟩ := hd.nrow; exact (hr.lt k e).2
  · rintro k (hk | hk | hk | hk)
    · simp only [Pc.ids, List.mem_cons, List.not_mem_nil, or_false] at hk
      rcases hk with hk | hk | hk | hk | hk | hk | hk
      · right; right; right; right; omega
      · left; omega
      · right; left; omega
      · right; right; right; right; omega
      · right; right; right; right; omega
      · right; right; right; right; omega
      · right; right; right; right; omega
    · cases hk
    · exact .inr (.inr (.inl hk))
    · exact .inr (.inr (.inr (.inl hk)))

set_option maxHeartbeats 2000000 in
set_option maxRecDepth 100000 in
theorem pagerNew_any {m : Nat} (hm : 4 ≤ m ∧ m ≤ 3000) (d f : Nat) (sy nw : Value) (w : World) (hd : DevAt w d m 2 sy nw) (hf : Blk w f 274 #[.slice none 0 0, .slice none 0 0, .map none]) :
    Calls Tryz.prog 33 #[ptrV d, ptrV f, .int .i64 2, .int .i64 1] w (PNewP m d f sy nw w) := by
  have hb0 : Below w.heap.size w (w.alloc (.cells #[.int .i64 2] 3)).drew := ((Below.refl _ w).alloc (Nat.le_refl _) _).drew
  have bx : Blk (w.alloc (.cells #[.int .i64 2] 3)).drew w.heap.size 3 #[.int .i64 2] := (Blk.new _ _ _).drew
  have x0 : (w.alloc (.cells #[.int .i64 2] 3)).drew.cell? ⟨w.heap.size, 0, none⟩ = some (.int .i64 2) := bx.cell 0
  have hL := Lib.hid (devLen_any d m 2 sy nw _ (hd.keeps (S := fun _ => False) (Keeps.of_below hb0) fun _ _ h => h))
  have hA := Lib.hid (freeAll_any f _ (hf.below' hb0))
  have hE := Lib.hid (fun (w1 w2 w3 : World) (p : Nat) (h1 : Below w.heap.size w w1) (hp : p = w1.heap.size) e2 e hc => pnew_end hm (w1 := w1) (w2 := w2) (w3 := w3) (e := e) hd hf h1 hp e2 hc)
  have hzz : (w.alloc (.cells #[.int .i64 2] 3)).drew.heap.size = w.heap.size + 1 := by simp
  have HB := Lib.hid hb0
  have HBX := Lib.hid bx
  have X0 := Lib.hid x0
  clear hd hf hb0 bx x0
  go_enter Tryz.func33, Tryz.ntmps33
  go_wp2_with (fail)
  have x0 := X0.out
  refine wp_region_any (by kernel_rfl) ?_
  change wpAny _ _ _ _ _ _ _ (World.drew _)
  try simp only [Act.put, lT, l0, lS]
  refine tk 0 (v := ?_) rfl (by kernel_rfl) (fun _ _ _ h => h) (by rfl) ?hy ?_
  case hy => intro w; go_simp; try with_reducible rfl
  try simp only [Act.put, lT, l0, lS]
  refine tk 1 (v := ?_) rfl (by kernel_rfl) (fun _ _ _ h => h) (by rfl) ?hy ?_
  case hy => intro w; go_simp; try with_reducible rfl
  try simp only [Act.put, lT, l0, lS]
  refine tk 2 (v := ?_) rfl (by kernel_rfl) (fun _ _ _ h => h) (by rfl) ?hy ?_
  case hy => intro w; go_simp; try with_reducible rfl
  try simp only [Act.put, lT, l0, lS]
  refine tk 3 (v := ?_) rfl (by kernel_rfl) (fun _ _ _ h => h) (by rfl) ?hy ?_
  case hy => intro w; go_simp; try with_reducible rfl
  try simp only [Act.put, lT, l0, lS]
  refine tk 4 (v := ?_) rfl (by kernel_rfl) (fun _ _ _ h => h) (by rfl) ?hy ?_
  case hy => intro w; go_simp; try with_reducible rfl
  try simp only [Act.put, lT, l0, lS]
  refine tk 5 (v := ?_) rfl (by kernel_rfl) (fun _ _ _ h => h) (by rfl) ?hy ?_
  case hy => intro w; go_simp; try with_reducible rfl
  try simp only [Act.put, lT, l0, lS]
  refine tk 6 (v := ?_) rfl (by kernel_rfl) (fun _ _ _ h => h) (by rfl) ?hy ?_
  case hy => intro w; go_simp; try with_reducible rfl
  try simp only [Act.put, lT, l0, lS]
  refine rd 7 (by kernel_rfl) rfl (fun K hK => ?_)
  go_simp
  refine hK _ _ ?_
  clear hK K
  try simp only [Act.put, lT, l0, lS]
  refine tk 8 (v := ?_) rfl (by kernel_rfl) (fun _ _ _ h => h) (by rfl) ?hy ?_
  case hy => intro w; go_simp; try with_reducible rfl
  try simp only [Act.put, lT, l0, lS]
  refine tk 9 (v := ?_) rfl (by kernel_rfl) (fun _ _ _ h => h) (by rfl) ?hy ?_
  case hy => intro w; go_simp; try with_reducible rfl
  try simp only [Act.put, lT, l0, lS]
  refine tk 10 (v := ?_) rfl (by kernel_rfl) (fun _ _ _ h => h) (by rfl) ?hy ?_
  case hy => intro w; go_simp; try with_reducible rfl
  try simp only [Act.put, lT, l0, lS]
  refine tk 12 (v := ?_) rfl (by kernel_rfl) (fun _ _ _ h => h) (by rfl) ?hy ?_
  case hy => intro w; go_simp; try with_reducible rfl
  try simp only [Act.put, lT, l0, lS]
  refine wpAny_ready (rs := [11, 13]) (by kernel_rfl) (by simp) (AllReady.cons (o := { dst := _, op := _, type := _, pos := _, after := _, guard := _ }) rfl (fun K hK => ?_) (AllReady.cons (o := { dst := _, op := _, type := _, pos := _, after := _, guard := _ }) rfl (fun K hK => ?_) AllReady.nil))
  · go_simp
    refine hK _ _ ?_
    clear hK K
    refine rd 13 (by kernel_rfl) rfl (fun K hK => ?_)
    go_simp
    (go_must (refine hL.out.mono ?_); rintro e w2 ⟨rfl, rfl⟩)
    go_simp
    refine hK _ _ ?_
    clear hK K
    try simp only [Act.put, lT, l0, lS]
    refine tk 14 (v := ?_) rfl (by kernel_rfl) (fun _ _ _ h => h) (by rfl) ?hy ?_
    case hy => intro w; go_simp; try with_reducible rfl
    try simp only [Act.put, lT, l0, lS]
    refine tk 15 (v := ?_) rfl (by kernel_rfl) (fun _ _ _ h => h) (by rfl) ?hy ?_
    case hy => intro w; go_simp; try with_reducible rfl
    try simp only [Act.put, lT, l0, lS]
    refine tk 16 (v := ?_) rfl (by kernel_rfl) (fun _ _ _ h => h) (by rfl) ?hy ?_
    case hy => intro w; go_simp; try with_reducible rfl
    try simp only [Act.put, lT, l0, lS]
    refine tk 17 (v := ?_) rfl (by kernel_rfl) (fun _ _ _ h => h) (by rfl) ?hy ?_
    case hy => intro w; go_simp; try with_reducible rfl
    try simp only [Act.put, lT, l0, lS]
    refine tk 18 (v := ?_) rfl (by kernel_rfl) (fun _ _ _ h => h) (by rfl) ?hy ?_
    case hy => intro w; go_simp; try with_reducible rfl
    try simp only [Act.put, lT, l0, lS]
    refine tk 19 (v := ?_) rfl (by kernel_rfl) (fun _ _ _ h => h) (by rfl) ?hy ?_
    case hy => intro w; go_simp; try with_reducible rfl
    try simp only [Act.put, lT, l0, lS]
    refine wpAny_done (by kernel_rfl) ?_ _
    go_wp2_with (fail)
    go_must (refine hA.out.mono ?_)
    rintro e w3 ⟨rfl, hb3⟩
    have x3 : w3.cell? ⟨w.heap.size, 0, none⟩ = some (.int .i64 2) := (HBX.out.below' hb3).cell 0
    have hz3 := hb3.size
    go_wp2_with (fail)
    go_must (refine (containsNil_any _ _).mono ?_)
    rintro e w4 ⟨rfl, rfl⟩
    go_wp2_with (fail)
    go_must (refine (clear_any w3.heap.size d f _ (Blk.new _ _ _)).mono ?_)
    intro e w5 hc
    have HC := Lib.hid hc
    obtain ⟨rfl, _⟩ := hc
    go_wp2_with (fail)
    go_ret2
    exact hE.out w3 _ w5 w3.heap.size (HB.out.trans (hb3.mono (by simp))) rfl rfl _ HC.out
  · go_simp
    (go_must (refine hL.out.mono ?_); rintro e w2 ⟨rfl, rfl⟩)
    go_simp
    refine hK _ _ ?_
    clear hK K
    refine rd 11 (by kernel_rfl) rfl (fun K hK => ?_)
    go_simp
    refine hK _ _ ?_
    clear hK K
    try simp only [Act.put, lT, l0, lS]
    refine tk 14 (v := ?_) rfl (by kernel_rfl) (fun _ _ _ h => h) (by rfl) ?hy ?_
    case hy => intro w; go_simp; try with_reducible rfl
    try simp only [Act.put, lT, l0, lS]
    refine tk 15 (v := ?_) rfl (by kernel_rfl) (fun _ _ _ h => h) (by rfl) ?hy ?_
    case hy => intro w; go_simp; try with_reducible rfl
    try simp only [Act.put, lT, l0, lS]
    refine tk 16 (v := ?_) rfl (by kernel_rfl) (fun _ _ _ h => h) (by rfl) ?hy ?_
    case hy => intro w; go_simp; try with_reducible rfl
    try simp only [Act.put, lT, l0, lS]
    refine tk 17 (v := ?_) rfl (by kernel_rfl) (fun _ _ _ h => h) (by rfl) ?hy ?_
    case hy => intro w; go_simp; try with_reducible rfl
    try simp only [Act.put, lT, l0, lS]
    refine tk 18 (v := ?_) rfl (by kernel_rfl) (fun _ _ _ h => h) (by rfl) ?hy ?_
    case hy => intro w; go_simp; try with_reducible rfl
    try simp only [Act.put, lT, l0, lS]
    refine tk 19 (v := ?_) rfl (by kernel_rfl) (fun _ _ _ h => h) (by rfl) ?hy ?_
    case hy => intro w; go_simp; try with_reducible rfl
    try simp only [Act.put, lT, l0, lS]
    refine wpAny_done (by kernel_rfl) ?_ _
    go_wp2_with (fail)
    go_must (refine hA.out.mono ?_)
    rintro e w3 ⟨rfl, hb3⟩
    have x3 : w3.cell? ⟨w.heap.size, 0, none⟩ = some (.int .i64 2) := (HBX.out.below' hb3).cell 0
    have hz3 := hb3.size
    go_wp2_with (fail)
    go_must (refine (containsNil_any _ _).mono ?_)
    rintro e w4 ⟨rfl, rfl⟩
    go_wp2_with (fail)
    go_must (refine (clear_any w3.heap.size d f _ (Blk.new _ _ _)).mono ?_)
    intro e w5 hc
    have HC := Lib.hid hc
    obtain ⟨rfl, _⟩ := hc
    go_wp2_with (fail)
    go_ret2
    exact hE.out w3 _ w5 w3.heap.size (HB.out.trans (hb3.mono (by simp))) rfl rfl _ HC.out

def BaseP (m : Nat) (w : World) (e : Ending) (w' : World) : Prop :=
  ∃ d g f h sy nw, e = .returned (.tuple #[ptrV d, ptrV g, ptrV f, ptrV h, .bool true]) ∧ DevAt w' d m 2 sy nw ∧ Blk w' f 274 #[.slice none 0 0, .slice none 0 0, .map none] ∧ w.heap.size ≤ d ∧ w.heap.size ≤ f ∧ (∀ k, sy.ownBlock = some k → w.heap.size ≤ k) ∧ (∀ k, nw.ownBlock = some k → w.heap.size ≤ k) ∧ Below w.heap.size w w'

theorem devNew3 {m : Nat} (hm : 4 ≤ m ∧ m ≤ 3000) (w : World) : Calls Tryz.prog 109 #[.int .i64 (m : Int)] w fun e w' => e = .returned (.tuple #[ptrV w.heap.size, .int .i64 0]) ∧ DevAt w' w.heap.size m 0 (.slice none 0 0) (.slice none 0 0) ∧ Below w.heap.size w w' ∧ w'.heap.size = w.heap.size + 1 :=
  (devNew_any m w (by omega) hm.2).mono fun e w' ⟨h1, h2⟩ => ⟨h1, h2 ▸ DevAt.new m w hm.2, h2 ▸ (Below.refl _ w).alloc (Nat.le_refl _) _, by rw [← h2]; simp⟩

theorem refNew3 {m : Nat} (hm : 4 ≤ m ∧ m ≤ 3000) (w : World) : Calls Tryz.prog 110 #[.int .i64 (m : Int)] w fun e w' => e = .returned (.tuple #[ptrV w.heap.size, .int .i64 0]) ∧ Blk w' w.heap.size 263 (refDev m) ∧ Below w.heap.size w w' ∧ w'.heap.size = w.heap.size + 1 :=
  (refNew_any m w (by omega) hm.2).mono fun e w' ⟨h1, h2⟩ => ⟨h1, h2 ▸ Blk.new _ _ _, h2 ▸ (Below.refl _ w).alloc (Nat.le_refl _) _, by rw [← h2]; simp⟩

theorem freeNew3 (w : World) : Calls Tryz.prog 113 #[.slice none 0 0] w fun e w' => e = .returned (ptrV w.heap.size) ∧ Blk w' w.heap.size 274 #[.slice none 0 0, .slice none 0 0, .map none] ∧ Below w.heap.size w w' ∧ w'.heap.size = w.heap.size + 1 :=
  (freeNew_any w).mono fun e w' ⟨h1, h2⟩ => ⟨h1, h2 ▸ Blk.new _ _ _, h2 ▸ (Below.refl _ w).alloc (Nat.le_refl _) _, by rw [← h2]; simp⟩

/-- What the parts of Base come to. -/
theorem base_end {m : Nat} {w w1 w2 w3 w4 w5 w6 : World} {sy nw : Value} {T : TypeId} {V : Array Value} (a1 : DevAt w1 w.heap.size m 0 (.slice none 0 0) (.slice none 0 0)) (b1 : Below w.heap.size w w1) (z1 : w1.heap.size = w.heap.size + 1)
    (b2 : Below w1.heap.size w1 w2) (z2 : w2.heap.size = w1.heap.size + 1) (a2 : Blk w2 w1.heap.size 263 (refDev m))
    (a3 : DevAt w3 w.heap.size m 2 sy nw) (k3 : GrowK w.heap.size (.slice none 0 0) (.slice none 0 0) sy nw w2 w3) (k4 : Keeps (fun k => k = w1.heap.size) w3 w4) (a5 : Blk w5 w4.heap.size 274 #[.slice none 0 0, .slice none 0 0, .map none])
    (b5 : Below w4.heap.size w4 w5) (b6 : Below w5.heap.size w5 w6) :
    BaseP m w (.returned (.tuple #[ptrV w.heap.size, ptrV w1.heap.size, ptrV w4.heap.size, ptrV w6.heap.size, .bool true])) (w6.alloc (.cells V T)) := by
  have hz3 := k3.keeps.size
  have hz4 := k4.size
  have hz5 := b5.size
  have hz6 := b6.size
  have c2 : Below w.heap.size w w2 := b1.trans (b2.mono (by omega))
  have c3 : Below w.heap.size w w3 := c2.trans (k3.keeps.below (by omega) (fun i hi e => by
    rcases e with e | e | e
    · omega
    · cases e
    · cases e))
  have c4 : Below w.heap.size w w4 := c3.trans (k4.below (by omega) (fun i hi e => by omega))
  have c5 : Below w.heap.size w w5 := c4.trans (b5.mono (by omega))
  have c6 : Below w.heap.size w w6 := c5.trans (b6.mono (by omega))
  have c7 : Below w.heap.size w (w6.alloc (.cells V T)) := c6.alloc (by omega) _
  have a2' : Blk w3 w1.heap.size 263 (refDev m) := a2.keeps k3.keeps (fun e => by
    rcases e with e | e | e
    · omega
    · cases e
    · cases e)
  have a4 : DevAt w4 w.heap.size m 2 sy nw := a3.keeps k4 (fun k hk e => by
    subst e
    rcases hk with e | e | e
    · omega
    · obtain ⟨cs, hr⟩ := a3.srow
      exact own_ne hr a2' (by decide) _ e rfl
    · obtain ⟨cs, hr⟩ := a3.nrow
      exact own_ne hr a2' (by decide) _ e rfl)
  have b46 : Below w4.heap.size w4 (w6.alloc (.cells V T)) := (b5.trans (b6.mono (by omega))).alloc (by omega) _
  have a6 : DevAt (w6.alloc (.cells V T)) w.heap.size m 2 sy nw := a4.keeps (S := fun _ => False) (Keeps.of_below b46) fun _ _ h => h
  refine ⟨w.heap.size, w1.heap.size, w4.heap.size, w6.heap.size, sy, nw, rfl, a6, (a5.below' b6).alloc _, Nat.le_refl _, by omega, fun k e => ?_, fun k e => ?_, c7⟩
  · rcases k3.sy k e with h | h
    · cases h
    · omega
  · rcases k3.nw k e with h | h
    · cases h
    · omega

set_option maxHeartbeats 2000000 in
set_option maxRecDepth 100000 in
theorem base_any {m : Nat} (hm : 4 ≤ m ∧ m ≤ 3000) (w : World) : Calls Tryz.prog 32 #[.int .i64 (m : Int), .int .i64 2, .slice none 0 0] w (BaseP m w) := by
  go_enter Tryz.func32, Tryz.ntmps32
  go_wp2_with (fail)
  go_must (refine (devNew3 hm w).mono ?_)
  rintro e w1 ⟨rfl, a1, b1, z1⟩
  have A1 := Lib.hid a1
  have B1 := Lib.hid b1
  have Z1 := Lib.hid z1
  clear a1 b1 z1
  go_wp2_with (fail)
  go_must (refine (refNew3 hm w1).mono ?_)
  rintro e w2 ⟨rfl, a2, b2, z2⟩
  have a1' : DevAt w2 w.heap.size m 0 (.slice none 0 0) (.slice none 0 0) := A1.out.keeps (S := fun _ => False) (Keeps.of_below b2) fun _ _ h => h
  have A2 := Lib.hid a2
  have B2 := Lib.hid b2
  have Z2 := Lib.hid z2
  have hG := Lib.hid (devTo_any w.heap.size m 0 2 _ _ w2 a1' (by omega) (by omega))
  clear a2 b2 z2 a1'
  go_wp2_with (fail)
  go_must (refine hG.out.mono ?_)
  rintro e w3 ⟨rfl, sy, nw, a3, k3⟩
  have hR := Lib.hid (refGrow_any hm (A2.out.keeps k3.keeps (fun e => by
    have := Z1.out
    rcases e with e | e | e
    · omega
    · cases e
    · cases e)))
  have A3 := Lib.hid a3
  have K3 := Lib.hid k3
  clear a3 k3 hG
  go_wp2_with (fail)
  go_must (refine hR.out.mono ?_)
  rintro e w4 ⟨rfl, k4⟩
  have K4 := Lib.hid k4
  clear k4 hR
  go_wp2_with (fail)
  go_must (refine (freeNew3 w4).mono ?_)
  rintro e w5 ⟨rfl, a5, b5, z5⟩
  have A5 := Lib.hid a5
  have B5 := Lib.hid b5
  clear a5 b5 z5
  go_wp2_with (fail)
  go_must (refine (refSorted_nil w5).mono ?_)
  rintro e w6 ⟨rfl, b6⟩
  have B6 := Lib.hid b6
  clear b6
  go_wp2_with (fail)
  refine bodyPost_ret (v := .tuple #[ptrV w.heap.size, ptrV w1.heap.size, ptrV w4.heap.size, ptrV w6.heap.size, .bool true]) (by simp [results, Tryz.results32, go_sem]) rfl ?_
  exact base_end A1.out B1.out Z1.out B2.out Z2.out A2.out A3.out K3.out K4.out A5.out B5.out B6.out

def TNewP (m p : Nat) (c : Pc) (w : World) (e : Ending) (w' : World) : Prop :=
  ∃ root c', e = .returned (.tuple #[.int .i64 root, .int .i64 0]) ∧ PgOk w' p c' m (updS (fun _ => none) root (some ⟨2, 0, []⟩)) 1 ∧ PgK p c c' w w'

theorem treeNew_any {m : Nat} (hm : 4 ≤ m ∧ m ≤ 3000) (p : Nat) (c : Pc) (w : World) (h : PgOk w p c m (fun _ => none) 0) : Calls Tryz.prog 100 #[ptrV p] w (TNewP m p c w) := by
  have hM := Lib.hid (make_any ⟨2, 0, []⟩ w h (by simp [Pg.ok]) (by omega))
  clear h
  go_enter Tryz.func100, Tryz.ntmps100
  go_wp2_with (fail)
  go_must (refine hM.out.mono ?_)
  rintro e w1 ⟨root, c', rfl, _, _, _, hp, hk⟩
  have HP := Lib.hid hp
  have HK := Lib.hid hk
  clear hp hk
  go_wp2_with (fail)
  go_ret2
  exact ⟨root, c', rfl, HP.out, HK.out⟩

def BeginM (m : Nat) (w : World) (e : Ending) (w' : World) : Prop :=
  ∃ d f p c root, e = .returned (.tuple #[ptrV d, ptrV f, ptrV p, .int .i64 root, .bool true]) ∧ PgOk w' p c m (updS (fun _ => none) root (some ⟨2, 0, []⟩)) 1 ∧ (∀ k, c.S p k → w.heap.size ≤ k) ∧ Below w.heap.size w w'

set_option maxHeartbeats 2000000 in
theorem begin_m {m : Nat} (hm : 4 ≤ m ∧ m ≤ 3000) (w : World) : Calls Tryz.prog 28 #[.int .i64 (m : Int)] w (BeginM m w) := by
  go_enter Tryz.func28, Tryz.ntmps28
  go_wp2_with (fail)
  go_must (refine (base_any hm w).mono ?_)
  rintro e w1 ⟨d, g, f, h, sy, nw, rfl, hd, hf, d1, d2, d3, d4, b1⟩
  have hN := Lib.hid (pagerNew_any hm d f sy nw w1 hd hf)
  have B1 := Lib.hid b1
  clear hd hf b1
  go_wp2_with (fail)
  go_must (refine hN.out.mono ?_)
  rintro e w2 ⟨p, c, rfl, hp, hs, b2⟩
  have hT := Lib.hid (treeNew_any hm p c w2 hp)
  have hz1 := B1.out.size
  have HS := Lib.hid (show ∀ k, c.S p k → w.heap.size ≤ k from fun k hk => by
    rcases hs k hk with h | h | h | h | h
    · omega
    · omega
    · exact d3 k h
    · exact d4 k h
    · omega)
  have B2 := Lib.hid b2
  clear hp hs b2 hN
  go_wp2_with (fail)
  go_must (refine hT.out.mono ?_)
  rintro e w3 ⟨root, c', rfl, hp, hk⟩
  have HP := Lib.hid hp
  have HK := Lib.hid hk
  clear hp hk hT
  go_wp2_with (fail)
  refine bodyPost_ret (v := .tuple #[ptrV d, ptrV f, ptrV p, .int .i64 root, .bool true]) (by simp [results, Tryz.results28, go_sem]) rfl ?_
  have hz2 := B2.out.size
  refine ⟨d, f, p, c', root, rfl, HP.out, fun k hk => ?_, ?_⟩
  · rcases HK.out.sub k hk with h | h
    · exact HS.out k h
    · omega
  · exact (B1.out.trans (B2.out.mono hz1)).trans (HK.out.keeps.below (by omega) fun i hi e => by have := HS.out i e; omega)

abbrev BeginP (w : World) (e : Ending) (w' : World) : Prop := BeginM 3000 w e w'
theorem begin_any (w : World) : Calls Tryz.prog 28 #[.int .i64 3000] w (BeginP w) := begin_m (m := 3000) (by omega) w
end Go.Ev

set_option linter.unusedVariables false
set_option linter.unusedSimpArgs false
namespace Go.Ev
open Go.Proofs Go.RowKit

theorem good_any (s : Bytes) (w : World) (hs : s.length ≤ 9223372036854775807) : Calls Tryz.prog 101 #[strV s] w fun e w' => e = .returned (.bool (decide (1 ≤ s.length) && decide (s.length ≤ 40))) ∧ w = w' := by
  obtain ⟨n, hn⟩ : ∃ n, s.length = n := ⟨_, rfl⟩
  rw [hn]
  by_cases h1 : 1 ≤ n
  · have h1' : (1 : Int) ≤ (n : Int) := by omega
    by_cases h40 : n ≤ 40
    · have h40' : (n : Int) ≤ 40 := by omega
      go_enter Tryz.func101, Tryz.ntmps101
      go_wp2
      go_ret
      exact ⟨by simp [h1, h40], rfl⟩
    · have h40' : ¬ (n : Int) ≤ 40 := by omega
      go_enter Tryz.func101, Tryz.ntmps101
      go_wp2
      go_ret
      exact ⟨by simp [h1, h40], rfl⟩
  · have h1' : ¬ (1 : Int) ≤ (n : Int) := by omega
    go_enter Tryz.func101, Tryz.ntmps101
    go_wp2
    go_ret
    exact ⟨by simp [h1], rfl⟩

theorem drop_cons_of {a : Bytes} {i : Nat} (h : i < a.length) : a.drop i = a[i] :: a.drop (i + 1) := List.drop_eq_getElem_cons h

set_option maxHeartbeats 1000000 in
theorem less_any (a b : Bytes) (w : World) (ha : a.length ≤ 100000) (hb : b.length ≤ 100000) : Calls Tryz.prog 26 #[strV a, strV b] w fun e w' => e = .returned (.bool (lessB a b)) ∧ Below w.heap.size w w' := by
  obtain ⟨na, hna⟩ : ∃ n, a.length = n := ⟨_, rfl⟩
  obtain ⟨nb, hnb⟩ : ∃ n, b.length = n := ⟨_, rfl⟩
  go_enter Tryz.func26, Tryz.ntmps26
  go_wp2
  go_loopg [5] na (fun gk s5 wr => ∃ i : Nat, s5 = .int .i64 (i : Int) ∧ i + gk = na ∧ i ≤ nb ∧ Hid (lessB a b = lessB (a.drop i) (b.drop i)) ∧ Below w.heap.size w wr)
  case atStart => exact ⟨0, rfl, by omega, by omega, rfl, Below.refl _ _⟩
  case round =>
    obtain ⟨i, rfl, hi, hib, hl, hbw⟩ := hrel
    by_cases h1 : i < na
    · by_cases h2 : i < nb
      · have h1' : (i : Int) < (na : Int) := by omega
        have h2' : (i : Int) < (nb : Int) := by omega
        have ea := drop_cons_of (a := a) (i := i) (by omega)
        have eb := drop_cons_of (a := b) (i := i) (by omega)
        have h0 : (0 : Int) ≤ (i : Int) := by omega
        have hw : IntKind.i64.wrap ((i : Int) + 1) = (i : Int) + 1 := IntWalk.i64_in _ (by omega)
        obtain ⟨x, hx⟩ : ∃ x, a[i]'(by omega) = x := ⟨_, rfl⟩
        obtain ⟨y, hy⟩ : ∃ y, b[i]'(by omega) = y := ⟨_, rfl⟩
        rw [hx] at ea
        rw [hy] at eb
        have gx : ({ data := List.toArray a } : ByteArray)[i]'(by show i < a.length; omega) = x := hx
        have gy : ({ data := List.toArray b } : ByteArray)[i]'(by show i < b.length; omega) = y := hy
        have HL := hl.out
        rw [ea, eb] at HL
        clear ea eb hl hx hy ha hb
        by_cases hxy : x = y
        · subst hxy
          have hc : lessB (x :: a.drop (i + 1)) (x :: b.drop (i + 1)) = lessB (a.drop (i + 1)) (b.drop (i + 1)) := by simp [lessB, Op.bytesLess]
          rw [hc] at HL
          have HL := Lib.hid HL
          clear hc
          go_wp2_with (fail)
          refine wp_region_any (by kernel_rfl) ?_
          change wpAny _ _ _ _ _ _ _ (World.drew _)
          try simp only [Act.put, lT, l0, lS]
          refine tk 0 (v := ?_) rfl (by kernel_rfl) (fun _ _ _ h => h) (by rfl) ?hy ?_
          case hy => intro w; go_simp; try with_reducible rfl
          try simp only [Act.put, lT, l0, lS]
          refine tk 1 (v := ?_) rfl (by kernel_rfl) (fun _ _ _ h => h) (by rfl) ?hy ?_
          case hy => intro w; go_simp; try with_reducible rfl
          try simp only [Act.put, lT, l0, lS]
          refine tk 2 (v := ?_) rfl (by kernel_rfl) (fun _ _ _ h => h) (by rfl) ?hy ?_
          case hy => intro w; go_simp; try with_reducible rfl
          try simp only [Act.put, lT, l0, lS]
          refine tk 3 (v := ?_) rfl (by kernel_rfl) (fun _ _ _ h => h) (by rfl) ?hy ?_
          case hy => intro w; go_simp; try with_reducible rfl
          try simp only [Act.put, lT, l0, lS]
          refine tk 4 (v := ?_) rfl (by kernel_rfl) (fun _ _ _ h => h) (by rfl) ?hy ?_
          case hy => intro w; go_simp; try with_reducible rfl
          try simp only [Act.put, lT, l0, lS]
          refine tk 5 (v := ?_) rfl (by kernel_rfl) (fun _ _ _ h => h) (by rfl) ?hy ?_
          case hy => intro w; go_simp; try with_reducible rfl
          try simp only [Act.put, lT, l0, lS]
          refine tk 6 (v := ?_) rfl (by kernel_rfl) (fun _ _ _ h => h) (by rfl) ?hy ?_
          case hy => intro w; go_simp; try with_reducible rfl
          try simp only [Act.put, lT, l0, lS]
          refine wpAny_done (by kernel_rfl) ?_ _
          go_wp2_with (fail)
          go_roundg (gk - 1)
          case measure => omega
          case rel => exact ⟨i + 1, by simp, by omega, by omega, HL.out, hbw.drew⟩
        · have hb1 : (((x.toNat : Nat) : Int) != ((y.toNat : Nat) : Int)) = true := by
            simp only [bne_iff_ne, ne_eq]
            intro e
            exact hxy (UInt8.toNat_inj.1 (by omega))
          have HL := Lib.hid HL
          have HXY := Lib.hid hxy
          clear hxy
          go_wp2_with (fail)
          refine wp_region_any (by kernel_rfl) ?_
          change wpAny _ _ _ _ _ _ _ (World.drew _)
          try simp only [Act.put, lT, l0, lS]
          refine tk 0 (v := ?_) rfl (by kernel_rfl) (fun _ _ _ h => h) (by rfl) ?hy ?_
          case hy => intro w; go_simp; try with_reducible rfl
          try simp only [Act.put, lT, l0, lS]
          refine tk 1 (v := ?_) rfl (by kernel_rfl) (fun _ _ _ h => h) (by rfl) ?hy ?_
          case hy => intro w; go_simp; try with_reducible rfl
          try simp only [Act.put, lT, l0, lS]
          refine tk 2 (v := ?_) rfl (by kernel_rfl) (fun _ _ _ h => h) (by rfl) ?hy ?_
          case hy => intro w; go_simp; try with_reducible rfl
          try simp only [Act.put, lT, l0, lS]
          refine tk 3 (v := ?_) rfl (by kernel_rfl) (fun _ _ _ h => h) (by rfl) ?hy ?_
          case hy => intro w; go_simp; try with_reducible rfl
          try simp only [Act.put, lT, l0, lS]
          refine tk 4 (v := ?_) rfl (by kernel_rfl) (fun _ _ _ h => h) (by rfl) ?hy ?_
          case hy => intro w; go_simp; try with_reducible rfl
          try simp only [Act.put, lT, l0, lS]
          refine tk 5 (v := ?_) rfl (by kernel_rfl) (fun _ _ _ h => h) (by rfl) ?hy ?_
          case hy => intro w; go_simp; try with_reducible rfl
          try simp only [Act.put, lT, l0, lS]
          refine tk 6 (v := ?_) rfl (by kernel_rfl) (fun _ _ _ h => h) (by rfl) ?hy ?_
          case hy => intro w; go_simp; try with_reducible rfl
          try simp only [Act.put, lT, l0, lS]
          refine wpAny_done (by kernel_rfl) ?_ _
          go_wp2_with (fail)
          refine wp_region_any (by kernel_rfl) ?_
          change wpAny _ _ _ _ _ _ _ (World.drew _)
          try simp only [Act.put, lT, l0, lS]
          refine tk 0 (v := ?_) rfl (by kernel_rfl) (fun _ _ _ h => h) (by rfl) ?hy ?_
          case hy => intro w; go_simp; try with_reducible rfl
          try simp only [Act.put, lT, l0, lS]
          refine tk 1 (v := ?_) rfl (by kernel_rfl) (fun _ _ _ h => h) (by rfl) ?hy ?_
          case hy => intro w; go_simp; try with_reducible rfl
          try simp only [Act.put, lT, l0, lS]
          refine tk 2 (v := ?_) rfl (by kernel_rfl) (fun _ _ _ h => h) (by rfl) ?hy ?_
          case hy => intro w; go_simp; try with_reducible rfl
          try simp only [Act.put, lT, l0, lS]
          refine tk 3 (v := ?_) rfl (by kernel_rfl) (fun _ _ _ h => h) (by rfl) ?hy ?_
          case hy => intro w; go_simp; try with_reducible rfl
          try simp only [Act.put, lT, l0, lS]
          refine tk 4 (v := ?_) rfl (by kernel_rfl) (fun _ _ _ h => h) (by rfl) ?hy ?_
          case hy => intro w; go_simp; try with_reducible rfl
          try simp only [Act.put, lT, l0, lS]
          refine tk 5 (v := ?_) rfl (by kernel_rfl) (fun _ _ _ h => h) (by rfl) ?hy ?_
          case hy => intro w; go_simp; try with_reducible rfl
          try simp only [Act.put, lT, l0, lS]
          refine tk 6 (v := ?_) rfl (by kernel_rfl) (fun _ _ _ h => h) (by rfl) ?hy ?_
          case hy => intro w; go_simp; try with_reducible rfl
          try simp only [Act.put, lT, l0, lS]
          refine rd 7 (by kernel_rfl) rfl (fun K hK => ?_)
          go_simp
          refine hK _ _ ?_
          clear hK K
          refine wpAny_done (by kernel_rfl) ?_ _
          go_wp2_with (fail)
          go_ret
          refine ⟨?_, hbw.drew.drew⟩
          try rw [HL.out]
          simp [lessB, Op.bytesLess, HXY.out, UInt8.lt_iff_toNat_lt]
      · have h2' : ¬ (i : Int) < (nb : Int) := by omega
        have h1' : (i : Int) < (na : Int) := by omega
        have HL := hl.out
        have ed : b.drop i = [] := List.drop_of_length_le (by omega)
        have ec := drop_cons_of (a := a) (i := i) (by omega)
        rw [ed, ec] at HL
        have HL := Lib.hid HL
        clear ed ec hl ha hb
        go_wp2_with (fail)
        go_ret
        refine ⟨?_, hbw⟩
        try rw [HL.out]
        simp [lessB, Op.bytesLess]
        omega
    · have h1' : ¬ (i : Int) < (na : Int) := by omega
      have HL := hl.out
      have ed : a.drop i = [] := List.drop_of_length_le (by omega)
      rw [ed] at HL
      by_cases hnn : na < nb
      · have hnn' : (na : Int) < (nb : Int) := by omega
        have e1 : b.drop i ≠ [] := by intro e; rw [List.drop_eq_nil_iff] at e; omega
        have HL := Lib.hid HL
        have HE := Lib.hid e1
        clear ed hl ha hb e1
        go_wp2_with (fail)
        go_ret
        refine ⟨?_, hbw⟩
        try rw [HL.out]
        cases hd : b.drop i with
        | nil => exact absurd hd HE.out
        | cons u l => simp [lessB, Op.bytesLess]
      · have hnn' : ¬ (na : Int) < (nb : Int) := by omega
        have e1 : b.drop i = [] := List.drop_of_length_le (by omega)
        rw [e1] at HL
        have HL := Lib.hid HL
        clear ed hl ha hb e1
        go_wp2_with (fail)
        go_ret
        refine ⟨?_, hbw⟩
        try rw [HL.out]
        simp [lessB, Op.bytesLess]

-- pairs in a row

def pairCs (q : Pair) : List Value := [strV q.1, strV q.2]
def pairsCs : List Pair → List Value
  | [] => []
  | q :: l => pairCs q ++ pairsCs l
theorem pairsCs_len : ∀ l : List Pair, (pairsCs l).length = l.length * 2
  | [] => rfl
  | q :: l => by simp [pairsCs, pairCs, pairsCs_len l]; omega
theorem pairsCs_app : ∀ a b : List Pair, pairsCs (a ++ b) = pairsCs a ++ pairsCs b
  | [], _ => rfl
  | q :: a, b => by simp [pairsCs, pairsCs_app a b]
theorem pairsCs_take : ∀ (l : List Pair) (k : Nat), (pairsCs l).take (k * 2) = pairsCs (l.take k)
  | [], k => by simp [pairsCs]
  | q :: l, 0 => rfl
  | q :: l, k + 1 => by
    rw [show (k + 1) * 2 = k * 2 + 1 + 1 by omega]
    simp [pairsCs, pairCs, pairsCs_take l k]
theorem pairsCs_drop : ∀ (l : List Pair) (k : Nat), (pairsCs l).drop (k * 2) = pairsCs (l.drop k)
  | [], k => by simp [pairsCs]
  | q :: l, 0 => rfl
  | q :: l, k + 1 => by
    rw [show (k + 1) * 2 = k * 2 + 1 + 1 by omega]
    simp [pairsCs, pairCs, pairsCs_drop l k]
theorem pairsCs_one : ∀ l : List Pair, ∀ u ∈ pairsCs l, u.oneCell' = true
  | [], u, h => by simp [pairsCs] at h
  | q :: l, u, h => by
    simp only [pairsCs, pairCs, List.cons_append, List.nil_append, List.mem_cons] at h
    rcases h with rfl | rfl | h
    · rfl
    · rfl
    · exact pairsCs_one l u h
theorem pairsCs_at : ∀ (l : List Pair) (k : Nat) (hk : k < l.length), (pairsCs l)[k * 2]? = some (strV l[k].1) ∧ (pairsCs l)[k * 2 + 1]? = some (strV l[k].2)
  | q :: l, 0, _ => ⟨rfl, rfl⟩
  | q :: l, k + 1, h => by
    have ih := pairsCs_at l k (by simpa using h)
    rw [show (k + 1) * 2 = k * 2 + 2 by omega]
    simpa [pairsCs, pairCs] using ih

/-- How many stand ahead of a key; is it there? -/
def aheadP (k : Bytes) : List Pair → Nat
  | [] => 0
  | q :: l => if lessB q.1 k then aheadP k l + 1 else 0
def isAtP (k : Bytes) : List Pair → Bool
  | [] => false
  | q :: l => if lessB q.1 k then isAtP k l else q.1 == k

theorem aheadP_le (k : Bytes) : ∀ l : List Pair, aheadP k l ≤ l.length
  | [] => Nat.le_refl _
  | q :: l => by
    have := aheadP_le k l
    simp only [aheadP, List.length_cons]
    split <;> omega
theorem aheadP_drop (k : Bytes) {l : List Pair} {i : Nat} (h : i < l.length) : aheadP k (l.drop i) = if lessB l[i].1 k then aheadP k (l.drop (i + 1)) + 1 else 0 := by
  rw [List.drop_eq_getElem_cons h]
  rfl
theorem isAtP_eq (k : Bytes) : ∀ l : List Pair, isAtP k l = match l[aheadP k l]? with | some q => q.1 == k | none => false
  | [] => rfl
  | q :: l => by
    have ih := isAtP_eq k l
    simp only [isAtP, aheadP]
    split
    · rw [ih]; simp
    · simp
theorem insP_at (k v : Bytes) : ∀ l : List Pair, insP k v l = l.take (aheadP k l) ++ (k, v) :: l.drop (if isAtP k l then aheadP k l + 1 else aheadP k l)
  | [] => rfl
  | q :: l => by
    have ih := insP_at k v l
    simp only [insP, aheadP, isAtP]
    by_cases h1 : lessB q.1 k = true
    · simp only [h1, if_true]
      rw [ih]
      split <;> simp
    · by_cases h2 : lessB k q.1 = true
      · have : (q.1 == k) = false := by
          simp only [beq_eq_false_iff_ne, ne_eq]
          exact (lessB_ne h2).symm
        simp [h1, h2, this]
      · have : (q.1 == k) = true := by
          simp only [beq_iff_eq]
          rcases lessB_total q.1 k with h | h | h
          · exact absurd h h1
          · exact h
          · exact absurd h h2
        simp [h1, h2, this]

def FindP (key : Bytes) (t : List Pair) (w : World) (e : Ending) (w' : World) : Prop :=
  e = .returned (.tuple #[.int .i64 (aheadP key t : Int), .bool (isAtP key t)]) ∧ Below w.heap.size w w'

set_option maxHeartbeats 1000000 in
theorem findP_any (A : Option Addr) (n c : Nat) (t : List Pair) (key : Bytes) (w : World) (hv : Sl w 2 (.slice A n c) n (pairsCs t)) (hn : n ≤ 100000) (hk : key.length ≤ 100000) (hks : ∀ q ∈ t, q.1.length ≤ 100000) :
    Calls Tryz.prog 17 #[.slice A n c, strV key] w (FindP key t w) := by
  have hl : t.length = n := by
    obtain ⟨_, _, _, _, h1, _⟩ := hv
    rw [pairsCs_len] at h1
    omega
  subst hl
  go_enter Tryz.func17, Tryz.ntmps17
  go_wp2
  go_loopg [6] t.length (fun gk s6 wr => ∃ i : Nat, s6 = .int .i64 (i : Int) ∧ i + gk = t.length ∧ Hid (aheadP key t = i + aheadP key (t.drop i)) ∧ Below w.heap.size w wr)
  case atStart => exact ⟨0, rfl, by omega, by show _ = 0 + _; rw [Nat.zero_add]; rfl, Below.refl _ _⟩
  case round =>
    obtain ⟨i, rfl, hi, hl, hbw⟩ := hrel
    by_cases h1 : i < t.length
    · have h1' : (i : Int) < (t.length : Int) := by omega
      have h0 : (0 : Int) ≤ (i : Int) := by omega
      have hw : IntKind.i64.wrap ((i : Int) + 1) = (i : Int) + 1 := IntWalk.i64_in _ (by omega)
      obtain ⟨A', c', e0, _, _, hcl⟩ := hv.below hbw
      cases e0
      obtain ⟨blk, off, rfl, hbl, hcell⟩ := hcl (by omega)
      obtain ⟨p1, p2⟩ := pairsCs_at t i h1
      have x1 := hcell _ _ p1
      have x2 := hcell _ _ p2
      have HL := Lib.hid (less_any t[i].1 key wr (hks _ (List.getElem_mem ..)) hk)
      have hD := hl.out
      rw [aheadP_drop key h1] at hD
      have hQ := Lib.hid (isAtP_eq key t)
      cases hc : lessB t[i].1 key with
      | true =>
        rw [hc] at HL hD
        simp only [if_true] at hD
        have hD := Lib.hid hD
        clear hv hks hcell hl p1 p2 hcl
        go_wp2_with (fail)
        go_must (refine HL.out.mono ?_)
        rintro e w1 ⟨rfl, hb1⟩
        go_wp2_with (fail)
        go_roundg (gk - 1)
        case measure => omega
        case rel => exact ⟨i + 1, by simp, by omega, by show _ = _; rw [hD.out]; omega, hbw.trans (hb1.mono hbw.size)⟩
      | false =>
        rw [hc] at HL hD
        simp only [Bool.false_eq_true, if_false] at hD
        have hat : isAtP key t = (t[i].1 == key) := by
          rw [hQ.out, hD, Nat.add_zero, List.getElem?_eq_getElem h1]
        have x1' : ∀ W, Below wr.heap.size wr W → W.cell? ⟨blk, off + i * 2, none⟩ = some (strV t[i].1) := fun W hW => (hW.cell (p := ⟨blk, off + i * 2, none⟩) hbl).trans x1
        have hD := Lib.hid hD
        have HAT := Lib.hid hat
        have X1 := Lib.hid x1'
        clear hv hks hcell hl p1 p2 hcl hat x1'
        go_wp2_with (fail)
        go_must (refine HL.out.mono ?_)
        rintro e w1 ⟨rfl, hb1⟩
        have y1 := X1.out w1 hb1
        go_wp2_with (fail)
        refine wp_region_any (by kernel_rfl) ?_
        change wpAny _ _ _ _ _ _ _ (World.drew _)
        try simp only [Act.put, lT, l0, lS]
        refine tk 0 (v := ?_) rfl (by kernel_rfl) (fun _ _ _ h => h) (by rfl) ?hy ?_
        case hy => intro w; go_simp; try with_reducible rfl
        try simp only [Act.put, lT, l0, lS]
        refine tk 1 (v := ?_) rfl (by kernel_rfl) (fun _ _ _ h => h) (by rfl) ?hy ?_
        case hy => intro w; go_simp; try with_reducible rfl
        try simp only [Act.put, lT, l0, lS]
        refine tk 2 (v := ?_) rfl (by kernel_rfl) (fun _ _ _ h => h) (by rfl) ?hy ?_
        case hy => intro w; go_simp; try with_reducible rfl
        try simp only [Act.put, lT, l0, lS]
        refine tk 3 (v := ?_) rfl (by kernel_rfl) (fun _ _ _ h => h) (by rfl) ?hy ?_
        case hy => intro w; go_simp; try with_reducible rfl
        try simp only [Act.put, lT, l0, lS]
        refine tk 4 (v := ?_) rfl (by kernel_rfl) (fun _ _ _ h => h) (by rfl) ?hy ?_
        case hy => intro w; go_simp; try with_reducible rfl
        try simp only [Act.put, lT, l0, lS]
        refine tk 5 (v := ?_) rfl (by kernel_rfl) (fun _ _ _ h => h) (by rfl) ?hy ?_
        case hy => intro w; go_simp; try with_reducible rfl
        try simp only [Act.put, lT, l0, lS]
        refine tk 6 (v := ?_) rfl (by kernel_rfl) (fun _ _ _ h => h) (by rfl) ?hy ?_
        case hy => intro w; go_simp; try with_reducible rfl
        try simp only [Act.put, lT, l0, lS]
        refine tk 7 (v := ?_) rfl (by kernel_rfl) (fun _ _ _ h => h) (by rfl) ?hy ?_
        case hy => intro w; go_simp; try with_reducible rfl
        try simp only [Act.put, lT, l0, lS]
        refine tk 8 (v := ?_) rfl (by kernel_rfl) (fun _ _ _ h => h) (by rfl) ?hy ?_
        case hy => intro w; go_simp; try with_reducible rfl
        try simp only [Act.put, lT, l0, lS]
        refine tk 9 (v := ?_) rfl (by kernel_rfl) (fun _ _ _ h => h) (by rfl) ?hy ?_
        case hy => intro w; go_simp; try with_reducible rfl
        try simp only [Act.put, lT, l0, lS]
        try simp only [Act.put, lT, l0, lS]
        refine tkR 10 (v := ?_) rfl (by kernel_rfl) (fun _ _ _ h => h) (by rfl) ?hy ?_
        case hy => intro w hE; have q0 := hE.cell y1; go_simp; try with_reducible rfl
        try simp only [Act.put, lT, l0, lS]
        try simp only [Act.put, lT, l0, lS]
        refine tk 11 (v := ?_) rfl (by kernel_rfl) (fun _ _ _ h => h) (by rfl) ?hy ?_
        case hy => intro w; go_simp; try with_reducible rfl
        try simp only [Act.put, lT, l0, lS]
        refine tk 12 (v := ?_) rfl (by kernel_rfl) (fun _ _ _ h => h) (by rfl) ?hy ?_
        case hy => intro w; go_simp; try with_reducible rfl
        try simp only [Act.put, lT, l0, lS]
        refine tk 13 (v := ?_) rfl (by kernel_rfl) (fun _ _ _ h => h) (by rfl) ?hy ?_
        case hy => intro w; go_simp; try with_reducible rfl
        try simp only [Act.put, lT, l0, lS]
        refine rd 14 (by kernel_rfl) rfl (fun K hK => ?_)
        go_simp
        refine hK _ _ ?_
        clear hK K
        refine rd 15 (by kernel_rfl) rfl (fun K hK => ?_)
        go_simp
        refine hK _ _ ?_
        clear hK K
        refine wpAny_done (by kernel_rfl) ?_ _
        go_wp2_with (fail)
        refine bodyPost_ret (v := .tuple #[.int .i64 (i : Int), .bool (t[i].1 == key)]) (by simp [results, Tryz.results17, go_sem]) rfl ?_
        exact ⟨by rw [hD.out, HAT.out]; simp, (hbw.trans (hb1.mono hbw.size)).drew⟩
    · have h1' : ¬ (i : Int) < (t.length : Int) := by omega
      have hii : i = t.length := by omega
      have hD := hl.out
      rw [hii, List.drop_length] at hD
      simp only [aheadP, Nat.add_zero] at hD
      have hat : isAtP key t = false := by rw [isAtP_eq, hD]; simp
      have hD := Lib.hid hD
      have HAT := Lib.hid hat
      have HII := Lib.hid hii
      clear hv hks hl hat hii
      go_wp2_with (fail)
      refine wp_region_any (by kernel_rfl) ?_
      change wpAny _ _ _ _ _ _ _ (World.drew _)
      try simp only [Act.put, lT, l0, lS]
      refine tk 0 (v := ?_) rfl (by kernel_rfl) (fun _ _ _ h => h) (by rfl) ?hy ?_
      case hy => intro w; go_simp; try with_reducible rfl
      try simp only [Act.put, lT, l0, lS]
      refine tk 1 (v := ?_) rfl (by kernel_rfl) (fun _ _ _ h => h) (by rfl) ?hy ?_
      case hy => intro w; go_simp; try with_reducible rfl
      try simp only [Act.put, lT, l0, lS]
      refine tk 2 (v := ?_) rfl (by kernel_rfl) (fun _ _ _ h => h) (by rfl) ?hy ?_
      case hy => intro w; go_simp; try with_reducible rfl
      try simp only [Act.put, lT, l0, lS]
      refine tk 3 (v := ?_) rfl (by kernel_rfl) (fun _ _ _ h => h) (by rfl) ?hy ?_
      case hy => intro w; go_simp; try with_reducible rfl
      try simp only [Act.put, lT, l0, lS]
      refine tk 4 (v := ?_) rfl (by kernel_rfl) (fun _ _ _ h => h) (by rfl) ?hy ?_
      case hy => intro w; go_simp; try with_reducible rfl
      try simp only [Act.put, lT, l0, lS]
      refine tk 5 (v := ?_) rfl (by kernel_rfl) (fun _ _ _ h => h) (by rfl) ?hy ?_
      case hy => intro w; go_simp; try with_reducible rfl
      try simp only [Act.put, lT, l0, lS]
      try simp only [Act.put, lT, l0, lS]
      refine sk 6 rfl (by kernel_rfl) (fun _ _ _ h => h) (by rfl) ?_
      try simp only [Act.put, lT, l0, lS]
      refine sk 7 rfl (by kernel_rfl) (fun _ _ _ h => h) (by rfl) ?_
      try simp only [Act.put, lT, l0, lS]
      refine sk 8 rfl (by kernel_rfl) (fun _ _ _ h => h) (by rfl) ?_
      try simp only [Act.put, lT, l0, lS]
      refine sk 9 rfl (by kernel_rfl) (fun _ _ _ h => h) (by rfl) ?_
      try simp only [Act.put, lT, l0, lS]
      refine sk 10 rfl (by kernel_rfl) (fun _ _ _ h => h) (by rfl) ?_
      try simp only [Act.put, lT, l0, lS]
      refine sk 11 rfl (by kernel_rfl) (fun _ _ _ h => h) (by rfl) ?_
      try simp only [Act.put, lT, l0, lS]
      refine sk 12 rfl (by kernel_rfl) (fun _ _ _ h => h) (by rfl) ?_
      try simp only [Act.put, lT, l0, lS]
      try simp only [Act.put, lT, l0, lS]
      refine tk 13 (v := ?_) rfl (by kernel_rfl) (fun _ _ _ h => h) (by rfl) ?hy ?_
      case hy => intro w; go_simp; try with_reducible rfl
      try simp only [Act.put, lT, l0, lS]
      refine rd 14 (by kernel_rfl) rfl (fun K hK => ?_)
      go_simp
      refine hK _ _ ?_
      clear hK K
      refine rd 15 (by kernel_rfl) rfl (fun K hK => ?_)
      go_simp
      refine hK _ _ ?_
      clear hK K
      refine wpAny_done (by kernel_rfl) ?_ _
      go_wp2_with (fail)
      refine bodyPost_ret (v := .tuple #[.int .i64 (i : Int), .bool false]) (by simp [results, Tryz.results17, go_sem]) rfl ?_
      exact ⟨by rw [hD.out, HAT.out, HII.out], hbw.drew⟩
end Go.Ev

set_option linter.unusedVariables false
set_option linter.unusedSimpArgs false
namespace Go.Ev
open Go.Proofs Go.RowKit

theorem infoPair : (Tryz.prog.info? 44).map (fun i => (i.zero, i.size, i.bytes)) = some (some (.agg #[strV [], strV []]), 2, 32) := by kernel_rfl

theorem aheadAt_lt {k : Bytes} {l : List Pair} (h : isAtP k l = true) : aheadP k l < l.length := by
  rw [isAtP_eq] at h
  cases hq : l[aheadP k l]? with
  | none => rw [hq] at h; cases h
  | some q => exact (List.getElem?_eq_some_iff.1 hq).1

def RefPutP (key v : Bytes) (t : List Pair) (w : World) (e : Ending) (w' : World) : Prop :=
  ∃ u, e = .returned (.tuple #[u, .int .i64 0]) ∧ w'.ownsRow w.heap.size 44 2 u (insP key v t).length (pairsCs (insP key v t)) ∧ Below w.heap.size w w'

theorem refPut_bad (A : Option Addr) (n c : Nat) (key v : Bytes) (w : World) (hk : key.length ≤ 9223372036854775807) (hv : v.length ≤ 9223372036854775807) (hbad : ¬ (1 ≤ key.length ∧ key.length ≤ 40 ∧ v.length ≤ 2000)) :
    Calls Tryz.prog 29 #[.slice A n c, strV key, strV v] w fun e w' => e = .returned (.tuple #[.slice A n c, .int .i64 1]) ∧ w = w' := by
  have hG := good_any key w hk
  obtain ⟨m, hm⟩ : ∃ m, v.length = m := ⟨_, rfl⟩
  rw [hm] at hbad hv
  by_cases hg : 1 ≤ key.length ∧ key.length ≤ 40
  · have e1 : decide (1 ≤ key.length) = true := by simpa using hg.1
    have e2 : decide (key.length ≤ 40) = true := by simpa using hg.2
    rw [e1, e2] at hG
    have h2 : (2000 : Int) < (m : Int) := by omega
    have HG := Lib.hid hG
    clear hG e1 e2
    go_enter Tryz.func29, Tryz.ntmps29
    go_wp2_with (fail)
    go_must (refine HG.out.mono ?_)
    rintro e w1 ⟨rfl, rfl⟩
    go_wp2_with (fail)
    refine bodyPost_ret (v := .tuple #[.slice A n c, .int .i64 1]) (by simp [results, Tryz.results29, go_sem]) rfl ?_
    exact ⟨rfl, rfl⟩
  · have e1 : (decide (1 ≤ key.length) && decide (key.length ≤ 40)) = false := by
      rw [Bool.and_eq_false_iff]
      simp only [decide_eq_false_iff_not]
      omega
    rw [e1] at hG
    have HG := Lib.hid hG
    clear hG e1
    go_enter Tryz.func29, Tryz.ntmps29
    go_wp2_with (fail)
    go_must (refine HG.out.mono ?_)
    rintro e w1 ⟨rfl, rfl⟩
    go_wp2_with (fail)
    refine bodyPost_ret (v := .tuple #[.slice A n c, .int .i64 1]) (by simp [results, Tryz.results29, go_sem]) rfl ?_
    exact ⟨rfl, rfl⟩

theorem row_pair (w : World) (q : Pair) (T : TypeId) (B : Nat) (hB : B = w.heap.size) : ∀ j v, (pairsCs [q])[j]? = some v → (w.alloc (.cells #[strV q.1, strV q.2] T)).cell? ((⟨B, 0, none⟩ : Addr).add j) = some v := by
  intro j v h
  subst hB
  rw [addr_add]
  have hb := Blk.new w T #[strV q.1, strV q.2]
  match j with
  | 0 => cases h; exact hb.cell 0
  | 1 => cases h; exact hb.cell 1
  | j + 2 => simp [pairsCs, pairCs] at h

theorem sl_pair (w : World) (q : Pair) (T : TypeId) : Sl (w.alloc (.cells #[strV q.1, strV q.2] T)) 2 (.slice (some ⟨w.heap.size, 0, none⟩) 1 1) 1 (pairsCs [q]) := by
  refine ⟨_, _, rfl, Nat.le_refl _, rfl, fun _ => ⟨w.heap.size, 0, rfl, by simp, fun j u hu => ?_⟩⟩
  have := row_pair w q T _ rfl j u hu
  rw [addr_add] at this
  exact this

set_option maxHeartbeats 4000000 in
set_option maxRecDepth 100000 in
theorem refPut_any (B : Nat) (x : Value) (t : List Pair) (key v : Bytes) (w : World) (hx : w.ownsRow B 44 2 x t.length (pairsCs t)) (hn : t.length ≤ 10000) (hks : ∀ q ∈ t, q.1.length ≤ 100000) (hk1 : 1 ≤ key.length) (hk2 : key.length ≤ 40) (hv : v.length ≤ 2000) :
    Calls Tryz.prog 29 #[x, strV key, strV v] w (RefPutP key v t w) := by
  obtain ⟨i0, hi, q0, q1, q2⟩ := info_parts infoPair
  have hG := good_any key w (by omega)
  have e1 : decide (1 ≤ key.length) = true := by simpa using hk1
  have e2 : decide (key.length ≤ 40) = true := by simpa using hk2
  rw [e1, e2] at hG
  obtain ⟨m, hm⟩ : ∃ m, v.length = m := ⟨_, rfl⟩
  have hm2 : ¬ (2000 : Int) < (m : Int) := by omega
  obtain ⟨A, c, rfl, hnc⟩ : ∃ A c, x = .slice A t.length c ∧ t.length ≤ c := by obtain ⟨A, c, e, h, _⟩ := Sl.of_own hx; exact ⟨A, c, e, h⟩
  have hsl := Sl.of_own hx
  have hAc : A = none → c = 0 ∧ t = [] := by
    rintro rfl
    rcases hx.2 with ⟨e, h⟩ | ⟨g, cap, cur, e, _⟩
    · simp only [Value.slice.injEq] at e
      exact ⟨e.2.2, List.eq_nil_of_length_eq_zero e.2.1⟩
    · simp at e
  have hF := findP_any A t.length c t key w hsl (by omega) (by omega) hks
  obtain ⟨k, hk⟩ : ∃ k, k = aheadP key t := ⟨_, rfl⟩
  obtain ⟨is, his⟩ : ∃ is, is = isAtP key t := ⟨_, rfl⟩
  obtain ⟨d, hd⟩ : ∃ d, d = if is then k + 1 else k := ⟨_, rfl⟩
  have hins := insP_at key v t
  rw [← his, ← hk, ← hd] at hins
  unfold FindP at hF
  rw [← hk, ← his] at hF
  have hkt : k ≤ t.length := hk ▸ aheadP_le key t
  have hkd : is = true → k + 1 ≤ t.length := fun h => by have := aheadAt_lt (his ▸ h : isAtP key t = true); omega
  have hdt : d ≤ t.length := by rw [hd]; cases is with | true => simpa using hkd rfl | false => simpa using hkt
  -- the front and the rest
  obtain ⟨A1, c1, hA1, hs1, hn1⟩ : ∃ A1 c1, (Value.slice A k c = .slice A1 k c1) ∧ Sl w 2 (.slice A1 k c1) k (pairsCs (t.take k)) ∧ (A1 = none → c1 = 0) := by
    refine ⟨A, c, rfl, ?_, fun h => (hAc h).1⟩
    rw [← pairsCs_take]
    exact Sl.take hsl hkt
  cases hA1
  have hrest : ∀ j, j ≤ t.length → ∃ A3, (A = none → A3 = none ∧ c - j = 0) ∧ (∀ blk off, A = some ⟨blk, off, none⟩ → A3 = if c = j then some ⟨blk, off, none⟩ else some ⟨blk, off + j * 2, none⟩) ∧ Sl w 2 (.slice A3 (t.length - j) (c - j)) (t.length - j) (pairsCs (t.drop j)) ∧ (A3 = none → c - j = 0) := by
    intro j hj
    cases A with
    | none =>
      obtain ⟨rfl, rfl⟩ := hAc rfl
      exact ⟨none, fun _ => ⟨rfl, by omega⟩, fun blk off h => (by cases h), by simpa [pairsCs] using Sl.nil w 2 (0 - j) none, fun _ => by omega⟩
    | some a =>
      rcases hx.2 with ⟨e, _⟩ | ⟨g, cap, cur, e, _⟩
      · cases e
      · cases e
        by_cases hc : c = j
        · refine ⟨some ⟨g, 0, none⟩, fun h => (by cases h), fun blk off h => (by cases h; rw [if_pos hc]), ?_, fun h => by cases h⟩
          have : t.length - j = 0 := by omega
          rw [this, List.drop_of_length_le (by omega)]
          exact Sl.nil ..
        · refine ⟨some ⟨g, 0 + j * 2, none⟩, fun h => (by cases h), fun blk off h => (by cases h; rw [if_neg hc]), ?_, fun h => by cases h⟩
          rw [← pairsCs_drop]
          exact Sl.drop hsl hj
  have hins_len : (insP key v t).length ≤ 10001 := by have := (insP_len (k := key) (v := v) t).1; omega
  have hlen : (insP key v t).length = k + 1 + (t.length - d) := by
    rw [hins, List.length_append, List.length_cons, List.length_take, List.length_drop]
    omega
  have hcs : pairsCs (insP key v t) = pairsCs (t.take k) ++ pairsCs [(key, v)] ++ pairsCs (t.drop d) := by
    rw [hins, ← pairsCs_app, ← pairsCs_app]
    simp
  have hE : ∀ u W, W.ownsRow w.heap.size 44 2 u (k + 1 + (t.length - d)) (pairsCs (t.take k) ++ pairsCs [(key, v)] ++ pairsCs (t.drop d)) → Below w.heap.size w W → RefPutP key v t w (.returned (.tuple #[u, .int .i64 0])) W := fun u W h1 h2 => by
    refine ⟨u, rfl, ?_, h2⟩
    rw [hlen, hcs]
    exact h1
  have HE := Lib.hid hE
  have HF := Lib.hid hF
  have HG := Lib.hid hG
  have HRest := Lib.hid hrest
  have HS1 := Lib.hid hs1
  have HKD := Lib.hid hkd
  have HD := Lib.hid hd
  have hb := Lib.hid hx
  clear hE hF hG hrest hs1 hcs hlen hins hk his hsl hx e1 e2 hins_len hkd hd hk1 hk2 hv hks
  cases A with
  | none =>
    obtain ⟨rfl, rfl⟩ := hAc rfl
    have hk0 : k = 0 := by simpa using hkt
    have hd0 : d = 0 := by simpa using hdt
    subst hk0 hd0
    cases is with
    | true => exact absurd (HKD.out rfl) (by simp)
    | false =>
      clear hAc hn1 hdt hkt hnc hn
      go_enter Tryz.func29, Tryz.ntmps29
      go_wp2_with (fail)
      go_must (refine HG.out.mono ?_)
      rintro e w0 ⟨rfl, rfl⟩
      go_wp2_with (fail)
      go_must (refine HF.out.mono ?_)
      rintro e w1 ⟨rfl, hb1⟩
      have hz1 := hb1.size
      go_wp2_with (at_builtin; go_must (refine wpList_append_sl rfl _ _ 27 rfl w.heap.size 44 i0 _ 2 32 Tryz.underlying27 hi q0 q1 q2 rfl (by decide) (.slice none 0 0) 0 [] rfl (World.ownsRow_nil _ _ _ _) none 0 0 [] rfl (Sl.nil ..) (fun _ => rfl) (by simp) (by decide) (by omega) hz1 ?_))
      intro v1 w2 own1 gr1
      have hb2 : Below w.heap.size w w2 := hb1.grown gr1 hz1 (fun k hk => by cases hk)
      have hz2 := hb2.size
      obtain ⟨A1, c1, rfl, _⟩ := Sl.of_own own1
      go_wp2_with (at_builtin; go_must (refine wpList_append_sl rfl _ _ 27 rfl w.heap.size 44 i0 _ 2 32 Tryz.underlying27 hi q0 q1 q2 rfl (by decide) _ 0 [] rfl (own1.alloc _) (some ⟨w2.heap.size, 0, none⟩) 1 1 (pairsCs [(key, v)]) rfl (sl_pair w2 (key, v) _) (fun h => by cases h) (pairsCs_one _) (by decide) (by omega) (by simp; omega) ?_))
      intro v2 w3 own2 gr2
      have hb3 : Below w.heap.size w w3 := (hb2.alloc hz2 _).grown gr2 (by simp; omega) (fun k hk => (own1.lt k hk).1)
      have hz3 := hb3.size
      obtain ⟨A2, c2, rfl, _⟩ := Sl.of_own own2
      go_wp2_with (at_builtin; go_must (refine wpList_append_sl rfl _ _ 27 rfl w.heap.size 44 i0 _ 2 32 Tryz.underlying27 hi q0 q1 q2 rfl (by decide) _ 1 (pairsCs [(key, v)]) rfl own2 none 0 0 [] rfl (Sl.nil ..) (fun _ => rfl) (by simp) (by decide) (by omega) hz3 ?_))
      intro v3 w4 own3 gr3
      have hb4 : Below w.heap.size w w4 := hb3.grown gr3 hz3 (fun k hk => (own2.lt k hk).1)
      obtain ⟨A3, c3, rfl, _⟩ := Sl.of_own own3
      go_wp2_with (fail)
      refine bodyPost_ret (v := .tuple #[.slice A3 1 c3, .int .i64 0]) (by simp [results, Tryz.results29, go_sem]) rfl ?_
      exact HE.out _ _ (by simpa [pairsCs] using own3) hb4
  | some a =>
    obtain ⟨g, off, rfl⟩ : ∃ g off, a = ⟨g, off, none⟩ := by
      rcases hb.out.2 with ⟨e, _⟩ | ⟨g, cap, cur, e, _⟩
      · cases e
      · cases e; exact ⟨g, 0, rfl⟩
    obtain ⟨n, hn'⟩ : ∃ n, t.length = n := ⟨_, rfl⟩
    rw [hn'] at hkt hdt hnc hn HE HF HRest HKD hb ⊢
    obtain ⟨A3, _, hA3, hs3, hn3⟩ := HRest.out d hdt
    replace hA3 := (hA3 g off rfl).symm
    have hkn : (k : Int) ≤ (n : Int) := by omega
    have hkc : k ≤ c := by omega
    have hdn : d ≤ n := hdt
    have hML : 100000 ≤ maxLen := by unfold maxLen; omega
    have HS3 := Lib.hid (And.intro hs3 hn3)
    have HN := Lib.hid hn'
    clear hAc hn1 hs3 hn3 hn'
    go_enter Tryz.func29, Tryz.ntmps29
    go_wp2_with (fail)
    go_must (refine HG.out.mono ?_)
    rintro e w0 ⟨rfl, rfl⟩
    go_wp2_with (fail)
    go_must (refine HF.out.mono ?_)
    rintro e w1 ⟨rfl, hb1⟩
    have hz1 := hb1.size
    cases is with
    | true =>
      have hd1 : d = k + 1 := HD.out
      have hw1 : IntKind.i64.wrap ((k : Int) + 1) = (k : Int) + 1 := IntWalk.i64_in _ (by omega)
      have hk1n : (k : Int) + 1 ≤ (n : Int) := by omega
      have hk0 : (0 : Int) ≤ (k : Int) + 1 := by omega
      have htn : ((k : Int) + 1).toNat = k + 1 := by omega
      subst hd1
      go_wp2_with (at_builtin; go_must (refine wpList_append_sl rfl _ _ 27 rfl w.heap.size 44 i0 _ 2 32 Tryz.underlying27 hi q0 q1 q2 rfl (by decide) (.slice none 0 0) 0 [] rfl (World.ownsRow_nil _ _ _ _) (some ⟨g, off, none⟩) k c (pairsCs (t.take k)) rfl (HS1.out.below hb1) (fun h => by cases h) (pairsCs_one _) (by omega) (by omega) hz1 ?_))
      intro v1 w2 own1 gr1
      have hb2 : Below w.heap.size w w2 := hb1.grown gr1 hz1 (fun k hk => by cases hk)
      have hz2 := hb2.size
      obtain ⟨A1, c1, rfl, _⟩ := Sl.of_own own1
      go_wp2_with (at_builtin; go_must (refine wpList_append_sl rfl _ _ 27 rfl w.heap.size 44 i0 _ 2 32 Tryz.underlying27 hi q0 q1 q2 rfl (by decide) _ _ _ rfl (own1.alloc _) (some ⟨w2.heap.size, 0, none⟩) 1 1 (pairsCs [(key, v)]) rfl (sl_pair w2 (key, v) _) (fun h => by cases h) (pairsCs_one _) (by omega) (by omega) (by simp; omega) ?_))
      intro v2 w3 own2 gr2
      have hb3 : Below w.heap.size w w3 := (hb2.alloc hz2 _).grown gr2 (by simp; omega) (fun k hk => (own1.lt k hk).1)
      have hz3 := hb3.size
      obtain ⟨A2, c2, rfl, _⟩ := Sl.of_own own2
      go_wp2_with (at_builtin; go_must (refine wpList_append_sl rfl _ _ 27 rfl w.heap.size 44 i0 _ 2 32 Tryz.underlying27 hi q0 q1 q2 rfl (by decide) _ _ _ rfl own2 A3 _ _ (pairsCs (t.drop (k + 1))) rfl (HS3.out.1.below hb3) HS3.out.2 (pairsCs_one _) (by omega) (by omega) hz3 ?_))
      intro v3 w4 own3 gr3
      have hb4 : Below w.heap.size w w4 := hb3.grown gr3 hz3 (fun k hk => (own2.lt k hk).1)
      obtain ⟨A4, c4, rfl, _⟩ := Sl.of_own own3
      go_wp2_with (fail)
      refine bodyPost_ret (v := .tuple #[.slice A4 _ c4, .int .i64 0]) (by simp [results, Tryz.results29, go_sem]; rfl) rfl ?_
      have hkn2 : k + 1 + (n - (k + 1)) = n := by omega
      exact HE.out _ _ (by simpa [hkn2] using own3) hb4
    | false =>
      have hd1 : d = k := HD.out
      subst hd1
      go_wp2_with (at_builtin; go_must (refine wpList_append_sl rfl _ _ 27 rfl w.heap.size 44 i0 _ 2 32 Tryz.underlying27 hi q0 q1 q2 rfl (by decide) (.slice none 0 0) 0 [] rfl (World.ownsRow_nil _ _ _ _) (some ⟨g, off, none⟩) d c (pairsCs (t.take d)) rfl (HS1.out.below hb1) (fun h => by cases h) (pairsCs_one _) (by omega) (by omega) hz1 ?_))
      intro v1 w2 own1 gr1
      have hb2 : Below w.heap.size w w2 := hb1.grown gr1 hz1 (fun k hk => by cases hk)
      have hz2 := hb2.size
      obtain ⟨A1, c1, rfl, _⟩ := Sl.of_own own1
      go_wp2_with (at_builtin; go_must (refine wpList_append_sl rfl _ _ 27 rfl w.heap.size 44 i0 _ 2 32 Tryz.underlying27 hi q0 q1 q2 rfl (by decide) _ _ _ rfl (own1.alloc _) (some ⟨w2.heap.size, 0, none⟩) 1 1 (pairsCs [(key, v)]) rfl (sl_pair w2 (key, v) _) (fun h => by cases h) (pairsCs_one _) (by omega) (by omega) (by simp; omega) ?_))
      intro v2 w3 own2 gr2
      have hb3 : Below w.heap.size w w3 := (hb2.alloc hz2 _).grown gr2 (by simp; omega) (fun k hk => (own1.lt k hk).1)
      have hz3 := hb3.size
      obtain ⟨A2, c2, rfl, _⟩ := Sl.of_own own2
      go_wp2_with (at_builtin; go_must (refine wpList_append_sl rfl _ _ 27 rfl w.heap.size 44 i0 _ 2 32 Tryz.underlying27 hi q0 q1 q2 rfl (by decide) _ _ _ rfl own2 A3 _ _ (pairsCs (t.drop d)) rfl (HS3.out.1.below hb3) HS3.out.2 (pairsCs_one _) (by omega) (by omega) hz3 ?_))
      intro v3 w4 own3 gr3
      have hb4 : Below w.heap.size w w4 := hb3.grown gr3 hz3 (fun k hk => (own2.lt k hk).1)
      obtain ⟨A4, c4, rfl, _⟩ := Sl.of_own own3
      go_wp2_with (fail)
      refine bodyPost_ret (v := .tuple #[.slice A4 _ c4, .int .i64 0]) (by simp [results, Tryz.results29, go_sem]; rfl) rfl ?_
      exact HE.out _ _ (by simpa using own3) hb4
end Go.Ev

set_option linter.unusedVariables false
set_option linter.unusedSimpArgs false
namespace Go.Ev
open Go.Proofs Go.RowKit

theorem bytes_beq (a b : Bytes) : ((⟨a.toArray⟩ : ByteArray) == ⟨b.toArray⟩) = decide (a = b) := by
  show (a.toArray == b.toArray) = decide (a = b)
  rw [Bool.eq_iff_iff]
  simp

set_option maxHeartbeats 2000000 in
set_option maxRecDepth 100000 in
theorem samePairs_any (A B : Option Addr) (n m c d : Nat) (a b : List Pair) (w : World) (ha : Sl w 2 (.slice A n c) n (pairsCs a)) (hb : Sl w 2 (.slice B m d) m (pairsCs b)) (hn : n ≤ 1000000) (hm : m ≤ 1000000) :
    Calls Tryz.prog 12 #[.slice A n c, .slice B m d] w fun e w' => e = .returned (.bool (decide (a = b))) ∧ Below w.heap.size w w' := by
  have hla : n = a.length := by obtain ⟨_, _, _, _, h1, _⟩ := ha; rw [pairsCs_len] at h1; omega
  have hlb : m = b.length := by obtain ⟨_, _, _, _, h1, _⟩ := hb; rw [pairsCs_len] at h1; omega
  subst hla hlb
  by_cases hl : a.length = b.length
  · have hl' : ((a.length : Int) != (b.length : Int)) = false := by simp [hl]
    have HL := Lib.hid hl
    go_enter Tryz.func12, Tryz.ntmps12
    clear hl
    go_wp2_with (fail)
    go_loopg [5] a.length (fun gk s5 wr => ∃ i : Nat, s5 = .int .i64 (i : Int) ∧ i + gk = a.length ∧ Hid (a.take i = b.take i) ∧ Below w.heap.size w wr)
    case atStart => exact ⟨0, rfl, by omega, rfl, Below.refl _ _⟩
    case round =>
      obtain ⟨i, rfl, hi, hsame, hbw⟩ := hrel
      by_cases h1 : i < a.length
      · have h1' : (i : Int) < (a.length : Int) := by omega
        have h2 : i < b.length := by have := HL.out; omega
        have h2' : (i : Int) < (b.length : Int) := by omega
        have hi0 : (0 : Int) ≤ (i : Int) := by omega
        have hw1 : IntKind.i64.wrap ((i : Int) + 1) = (i : Int) + 1 := IntWalk.i64_in _ (by omega)
        obtain ⟨_, _, e0, _, _, hcl⟩ := ha.below hbw
        cases e0
        obtain ⟨ba, oa, rfl, _, hca⟩ := hcl (by omega)
        obtain ⟨_, _, e0, _, _, hcl2⟩ := hb.below hbw
        cases e0
        obtain ⟨bb, ob, rfl, _, hcb⟩ := hcl2 (by omega)
        obtain ⟨p1, p2⟩ := pairsCs_at a i h1
        obtain ⟨p3, p4⟩ := pairsCs_at b i h2
        have x1 : wr.cell? ⟨ba, oa + i * 2, none⟩ = _ := hca _ _ p1
        have x2 : wr.cell? ⟨ba, oa + i * 2 + 1, none⟩ = _ := hca _ _ p2
        have x3 : wr.cell? ⟨bb, ob + i * 2, none⟩ = _ := hcb _ _ p3
        have x4 : wr.cell? ⟨bb, ob + i * 2 + 1, none⟩ = _ := hcb _ _ p4
        have HSt : Hid (a[i] = b[i] → a.take (i + 1) = b.take (i + 1)) := fun e => by
          rw [List.take_succ_eq_append_getElem h1, List.take_succ_eq_append_getElem h2, hsame.out, e]
        have HNe : Hid (a[i] ≠ b[i] → decide (a = b) = false) := fun e => by
          refine decide_eq_false fun e2 => e ?_
          subst e2; rfl
        clear p1 p2 p3 p4 hca hcb hcl hcl2 ha hb
        generalize a[i] = qa at *
        generalize b[i] = qb at *
        obtain ⟨k1, v1⟩ := qa
        obtain ⟨k2, v2⟩ := qb
        have hk := bytes_beq k1 k2
        have hv := bytes_beq v1 v2
        by_cases he : k1 = k2 ∧ v1 = v2
        · obtain ⟨rfl, rfl⟩ := he
          clear hk hv
          go_wp2_with (fail)
          refine wp_region_any (by kernel_rfl) ?_
          change wpAny _ _ _ _ _ _ _ (World.drew _)
          try simp only [Act.put, lT, l0, lS]
          refine tk 0 (v := ?_) rfl (by kernel_rfl) (fun _ _ _ h => h) (by rfl) ?hy ?_
          case hy => intro w; go_simp; try with_reducible rfl
          try simp only [Act.put, lT, l0, lS]
          refine tk 1 (v := ?_) rfl (by kernel_rfl) (fun _ _ _ h => h) (by rfl) ?hy ?_
          case hy => intro w; go_simp; try with_reducible rfl
          try simp only [Act.put, lT, l0, lS]
          refine tk 2 (v := ?_) rfl (by kernel_rfl) (fun _ _ _ h => h) (by rfl) ?hy ?_
          case hy => intro w; go_simp; try with_reducible rfl
          try simp only [Act.put, lT, l0, lS]
          refine tk 4 (v := ?_) rfl (by kernel_rfl) (fun _ _ _ h => h) (by rfl) ?hy ?_
          case hy => intro w; go_simp; try with_reducible rfl
          try simp only [Act.put, lT, l0, lS]
          refine tk 5 (v := ?_) rfl (by kernel_rfl) (fun _ _ _ h => h) (by rfl) ?hy ?_
          case hy => intro w; go_simp; try with_reducible rfl
          try simp only [Act.put, lT, l0, lS]
          refine tk 6 (v := ?_) rfl (by kernel_rfl) (fun _ _ _ h => h) (by rfl) ?hy ?_
          case hy => intro w; go_simp; try with_reducible rfl
          try simp only [Act.put, lT, l0, lS]
          try simp only [Act.put, lT, l0, lS]
          refine tkR 3 (v := ?_) rfl (by kernel_rfl) (fun _ _ _ h => h) (by rfl) ?hy ?_
          case hy => intro w hE; have q0 := hE.cell x1; have q1 := hE.cell x2; go_simp; try with_reducible rfl
          try simp only [Act.put, lT, l0, lS]
          try simp only [Act.put, lT, l0, lS]
          refine tkR 7 (v := ?_) rfl (by kernel_rfl) (fun _ _ _ h => h) (by rfl) ?hy ?_
          case hy => intro w hE; have q0 := hE.cell x3; have q1 := hE.cell x4; go_simp; try with_reducible rfl
          try simp only [Act.put, lT, l0, lS]
          refine rd 8 (by kernel_rfl) rfl (fun K hK => ?_)
          go_simp
          refine hK _ _ ?_
          clear hK K
          refine rd 9 (by kernel_rfl) rfl (fun K hK => ?_)
          go_simp
          refine hK _ _ ?_
          clear hK K
          refine wpAny_done (by kernel_rfl) ?_ _
          go_wp2_with (fail)
          go_roundg (gk - 1)
          case measure => omega
          case rel => exact ⟨i + 1, by simp, by omega, HSt.out (by first | rfl | trivial), hbw.drew⟩
        · have HF : Hid (decide (a = b) = false) := HNe.out fun e => he (by simpa using e)
          by_cases hkk : k1 = k2
          · have hvv : ¬ v1 = v2 := fun e => he ⟨hkk, e⟩
            subst hkk
            rw [decide_eq_false hvv] at hv
            clear hk he
            go_wp2_with (fail)
            refine wp_region_any (by kernel_rfl) ?_
            change wpAny _ _ _ _ _ _ _ (World.drew _)
            try simp only [Act.put, lT, l0, lS]
            refine tk 0 (v := ?_) rfl (by kernel_rfl) (fun _ _ _ h => h) (by rfl) ?hy ?_
            case hy => intro w; go_simp; try with_reducible rfl
            try simp only [Act.put, lT, l0, lS]
            refine tk 1 (v := ?_) rfl (by kernel_rfl) (fun _ _ _ h => h) (by rfl) ?hy ?_
            case hy => intro w; go_simp; try with_reducible rfl
            try simp only [Act.put, lT, l0, lS]
            refine tk 2 (v := ?_) rfl (by kernel_rfl) (fun _ _ _ h => h) (by rfl) ?hy ?_
            case hy => intro w; go_simp; try with_reducible rfl
            try simp only [Act.put, lT, l0, lS]
            refine tk 4 (v := ?_) rfl (by kernel_rfl) (fun _ _ _ h => h) (by rfl) ?hy ?_
            case hy => intro w; go_simp; try with_reducible rfl
            try simp only [Act.put, lT, l0, lS]
            refine tk 5 (v := ?_) rfl (by kernel_rfl) (fun _ _ _ h => h) (by rfl) ?hy ?_
            case hy => intro w; go_simp; try with_reducible rfl
            try simp only [Act.put, lT, l0, lS]
            refine tk 6 (v := ?_) rfl (by kernel_rfl) (fun _ _ _ h => h) (by rfl) ?hy ?_
            case hy => intro w; go_simp; try with_reducible rfl
            try simp only [Act.put, lT, l0, lS]
            try simp only [Act.put, lT, l0, lS]
            refine tkR 3 (v := ?_) rfl (by kernel_rfl) (fun _ _ _ h => h) (by rfl) ?hy ?_
            case hy => intro w hE; have q0 := hE.cell x1; have q1 := hE.cell x2; go_simp; try with_reducible rfl
            try simp only [Act.put, lT, l0, lS]
            try simp only [Act.put, lT, l0, lS]
            refine tkR 7 (v := ?_) rfl (by kernel_rfl) (fun _ _ _ h => h) (by rfl) ?hy ?_
            case hy => intro w hE; have q0 := hE.cell x3; have q1 := hE.cell x4; go_simp; try with_reducible rfl
            try simp only [Act.put, lT, l0, lS]
            refine rd 8 (by kernel_rfl) rfl (fun K hK => ?_)
            go_simp
            refine hK _ _ ?_
            clear hK K
            refine rd 9 (by kernel_rfl) rfl (fun K hK => ?_)
            go_simp
            refine hK _ _ ?_
            clear hK K
            refine wpAny_done (by kernel_rfl) ?_ _
            go_wp2_with (fail)
            go_ret
            exact ⟨by rw [HF.out] <;> rfl, hbw.drew⟩
          · rw [decide_eq_false hkk] at hk
            clear he
            go_wp2_with (fail)
            refine wp_region_any (by kernel_rfl) ?_
            change wpAny _ _ _ _ _ _ _ (World.drew _)
            try simp only [Act.put, lT, l0, lS]
            refine tk 0 (v := ?_) rfl (by kernel_rfl) (fun _ _ _ h => h) (by rfl) ?hy ?_
            case hy => intro w; go_simp; try with_reducible rfl
            try simp only [Act.put, lT, l0, lS]
            refine tk 1 (v := ?_) rfl (by kernel_rfl) (fun _ _ _ h => h) (by rfl) ?hy ?_
            case hy => intro w; go_simp; try with_reducible rfl
            try simp only [Act.put, lT, l0, lS]
            refine tk 2 (v := ?_) rfl (by kernel_rfl) (fun _ _ _ h => h) (by rfl) ?hy ?_
            case hy => intro w; go_simp; try with_reducible rfl
            try simp only [Act.put, lT, l0, lS]
            refine tk 4 (v := ?_) rfl (by kernel_rfl) (fun _ _ _ h => h) (by rfl) ?hy ?_
            case hy => intro w; go_simp; try with_reducible rfl
            try simp only [Act.put, lT, l0, lS]
            refine tk 5 (v := ?_) rfl (by kernel_rfl) (fun _ _ _ h => h) (by rfl) ?hy ?_
            case hy => intro w; go_simp; try with_reducible rfl
            try simp only [Act.put, lT, l0, lS]
            refine tk 6 (v := ?_) rfl (by kernel_rfl) (fun _ _ _ h => h) (by rfl) ?hy ?_
            case hy => intro w; go_simp; try with_reducible rfl
            try simp only [Act.put, lT, l0, lS]
            try simp only [Act.put, lT, l0, lS]
            refine tkR 3 (v := ?_) rfl (by kernel_rfl) (fun _ _ _ h => h) (by rfl) ?hy ?_
            case hy => intro w hE; have q0 := hE.cell x1; have q1 := hE.cell x2; go_simp; try with_reducible rfl
            try simp only [Act.put, lT, l0, lS]
            try simp only [Act.put, lT, l0, lS]
            refine tkR 7 (v := ?_) rfl (by kernel_rfl) (fun _ _ _ h => h) (by rfl) ?hy ?_
            case hy => intro w hE; have q0 := hE.cell x3; have q1 := hE.cell x4; go_simp; try with_reducible rfl
            try simp only [Act.put, lT, l0, lS]
            refine rd 8 (by kernel_rfl) rfl (fun K hK => ?_)
            go_simp
            refine hK _ _ ?_
            clear hK K
            refine rd 9 (by kernel_rfl) rfl (fun K hK => ?_)
            go_simp
            refine hK _ _ ?_
            clear hK K
            refine wpAny_done (by kernel_rfl) ?_ _
            go_wp2_with (fail)
            go_ret
            exact ⟨by rw [HF.out] <;> rfl, hbw.drew⟩
      · have h1' : ¬ (i : Int) < (a.length : Int) := by omega
        have HE : Hid (decide (a = b) = true) := by
          have hii : i = a.length := by omega
          have h3 := hsame.out
          have h4 := HL.out
          rw [hii, List.take_length, h4, List.take_length] at h3
          exact decide_eq_true h3
        clear ha hb hsame
        go_wp2_with (fail)
        go_ret
        exact ⟨by rw [HE.out] <;> rfl, hbw⟩
  · have hl' : ((a.length : Int) != (b.length : Int)) = true := by
      simp only [bne_iff_ne, ne_eq]
      omega
    have HE : Hid (decide (a = b) = false) := decide_eq_false fun e => hl (by rw [e])
    clear hl ha hb
    go_enter Tryz.func12, Tryz.ntmps12
    go_wp2_with (fail)
    go_ret
    exact ⟨by rw [HE.out] <;> rfl, Below.refl _ _⟩
end Go.Ev
