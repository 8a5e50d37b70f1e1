/-
  The law arboretumlaw24.SessNone, walked over what it calls.
-/
import Derived.Test.YtjmneomkkcbleaaGreatDoorEvKvWalk
import Derived.WalkLawsBesides
import Derived.Laws.ResultCell
import Derived.Deep.MidRow
namespace Go.Ev
open Go.Proofs Go.RowKit

def SomeStr (n : Nat) (w : World) (e : Ending) (w' : World) : Prop := (∃ t : ByteArray, e = .returned (.string t) ∧ t.size ≤ n) ∧ Below w.heap.size w w'

set_option maxHeartbeats 4000000 in
theorem key_any (hDig : ∀ (v : Int) (W : World), 0 ≤ v → v ≤ 99999999 → Calls Tryz.prog 233 #[.int .i64 v] W (SomeStr 21 W))
    (hRep : ∀ (k : Int) (W : World), 0 ≤ k → k ≤ 8 → Calls Tryz.prog 222 #[.string ⟨#[48]⟩, .int .i64 k] W (SomeStr 8 W))
    (v : Int) (w : World) (h0 : 0 ≤ v) (h1 : v ≤ 99999999) : Calls Tryz.prog 98 #[.int .i64 v] w (SomeStr 29 w) := by
  go_enter Tryz.func98, Tryz.ntmps98
  go_wp2_with (first
    | (go_at_call 233; refine (hDig _ _ h0 h1).mono ?_; rintro e w1 ⟨⟨t, rfl, ht⟩, hb1⟩)
    | (go_at_call 222; refine (hRep _ _ (by omega) (by omega)).mono ?_; rintro e w2 ⟨⟨u, rfl, hu⟩, hb2⟩))
  all_goals
    go_ret
    exact ⟨⟨_, rfl, by rw [ByteArray.size_append]; omega⟩, bel_then hb1 hb2⟩

theorem kept_cell {w w1 : World} {vs : Array Value} {T : TypeId} (h : Below (w.alloc (.cells vs T)).heap.size (w.alloc (.cells vs T)) w1) (j : Nat) (v : Value) (hv : vs[j]? = some v) :
    w1.cell? ⟨w.heap.size, j, none⟩ = some v ∧ w1.frozen? ⟨w.heap.size, j, none⟩ = false :=
  ⟨((bcell h).1 _ _ (by simp)).trans ((World.cell?_alloc_at _ _ _ j rfl).trans hv), ((bcell h).2 _ _ (by simp)).trans (World.frozen?_alloc_at _ _ _ j rfl)⟩

theorem kept_more {w1 w2 : World} {b j : Nat} {v : Value} (h : Below w1.heap.size w1 w2) (hb : b < w1.heap.size) (q : w1.cell? ⟨b, j, none⟩ = some v ∧ w1.frozen? ⟨b, j, none⟩ = false) :
    w2.cell? ⟨b, j, none⟩ = some v ∧ w2.frozen? ⟨b, j, none⟩ = false :=
  ⟨((bcell h).1 _ _ hb).trans q.1, ((bcell h).2 _ _ hb).trans q.2⟩

theorem setCell_self {w : World} {a : Addr} {v : Value} (h : w.cell? a = some v) : w.setCell a v = w := by
  unfold World.cell? at h
  split at h
  · rename_i c e f hc
    split at h
    · cases h
    · rename_i hs
      have h2 : w.heap.modify a.block (fun | .cells c elem frozen => .cells (if a.spot.isSome then c else c.setIfInBounds a.off v) elem frozen | o => o) = w.heap := by
        apply Array.ext_getElem?
        intro i
        rw [Array.getElem?_modify]
        split
        · rename_i hi
          subst hi
          rw [hc]
          simp only [Option.map_some, hs, if_false]
          congr 2
          apply Array.ext_getElem?
          intro j
          rw [Array.getElem?_setIfInBounds]
          split
          · rename_i hj
            subst hj
            obtain ⟨h3, h4⟩ := Array.getElem?_eq_some_iff.1 h
            rw [if_pos h3, h]
          · rfl
        · rfl
      exact congrArg (fun h => { w with heap := h }) h2
  · cases h

/-- A row of that many cells. -/
def rowB (P : Program) (t : TypeId) (n : Nat) : Bool := (match P.underlying t with | some d => d.isRow | none => false) && ((P.info? t).map (·.size) == some n)

theorem load_row {P : Program} {w : World} {t : TypeId} {b : Nat} (vs : List Value) (hB : rowB P t vs.length = true) (h : w.rangeAt b 0 vs) : (loadVar t ⟨b, 0, none⟩).run P w = .ok (.agg vs.toArray) w := by
  unfold rowB at hB
  simp only [Bool.and_eq_true, beq_iff_eq] at hB
  obtain ⟨h1, h2⟩ := hB
  split at h1
  · rename_i d hd
    exact run_loadVar_mid w b 0 t vs d h hd h1 h2
  · cases h1

theorem range5 {w : World} {b : Nat} {v0 v1 v2 v3 v4 : Value} (h0 : w.cell? ⟨b, 0, none⟩ = some v0) (h1 : w.cell? ⟨b, 1, none⟩ = some v1) (h2 : w.cell? ⟨b, 2, none⟩ = some v2) (h3 : w.cell? ⟨b, 3, none⟩ = some v3) (h4 : w.cell? ⟨b, 4, none⟩ = some v4) : w.rangeAt b 0 [v0, v1, v2, v3, v4] := by
  intro j v hj
  match j, hj with
  | 0, hj => simp at hj; subst hj; exact h0
  | 1, hj => simp at hj; subst hj; exact h1
  | 2, hj => simp at hj; subst hj; exact h2
  | 3, hj => simp at hj; subst hj; exact h3
  | 4, hj => simp at hj; subst hj; exact h4
theorem range3 {w : World} {b : Nat} {v0 v1 v2 : Value} (h0 : w.cell? ⟨b, 0, none⟩ = some v0) (h1 : w.cell? ⟨b, 1, none⟩ = some v1) (h2 : w.cell? ⟨b, 2, none⟩ = some v2) : w.rangeAt b 0 [v0, v1, v2] := by
  intro j v hj
  match j, hj with
  | 0, hj => simp at hj; subst hj; exact h0
  | 1, hj => simp at hj; subst hj; exact h1
  | 2, hj => simp at hj; subst hj; exact h2

/-- A result that lies in a row of cells, and one in a variable. -/
theorem res_row {P : Program} {fn : Func} {p u : Tmp} {t : TypeId} {b : Nat} {tmps : Array Value} {w : World} {x : Value} (vs : List Value) (h : fn.results = #[.cell p t, .tmp u]) (hp : tmps.getD p undef = .pointer (some ⟨b, 0, none⟩)) (hu : tmps.getD u undef = x) (hB : rowB P t vs.length = true) (hr : w.rangeAt b 0 vs) :
    (results fn tmps).run P w = .ok (.tuple #[.agg vs.toArray, x]) w := by
  rw [results_cell_tmp h, hp]
  simp [asAddr, load_row vs hB hr, Result.andThen, hu]

abbrev zSess : Value := .agg #[.int .i64 0, .int .i64 0, .int .i64 0, .string ⟨#[]⟩, .int .i64 0]
abbrev zRep : Value := .agg #[.int .i64 0, .string ⟨#[]⟩, .int .i64 0]
abbrev sSess : Value := .string ⟨#[115, 101, 115, 115]⟩

set_option maxHeartbeats 4000000 in
theorem get_any (hTree : ∀ W, Calls Tryz.prog 108 #[.pointer none, sSess] W (Gives0 (.tuple #[.int .i64 0, .int .i64 1]) W))
    (t : ByteArray) (w : World) : Calls Tryz.prog 136 #[.pointer none, sSess, .string t] w (Gives0 (.tuple #[.string ⟨#[]⟩, .int .i64 1]) w) := by
  go_enter Tryz.func136, Tryz.ntmps136
  go_wp2_with (go_at_call 108; refine (hTree _).mono ?_; rintro e w1 ⟨rfl, hb1⟩)
  go_ret2
  exact ⟨rfl, hb1⟩

set_option maxHeartbeats 4000000 in
theorem find_any (hKey : ∀ (v : Int) (W : World), 0 ≤ v → v ≤ 99999999 → Calls Tryz.prog 98 #[.int .i64 v] W (SomeStr 29 W))
    (hTree : ∀ W, Calls Tryz.prog 108 #[.pointer none, sSess] W (Gives0 (.tuple #[.int .i64 0, .int .i64 1]) W))
    (v : Int) (w : World) : Calls Tryz.prog 102 #[.pointer none, .int .i64 v] w (Gives0 (.tuple #[zSess, .int .i64 1]) w) := by
  have hGet := get_any hTree
  by_cases h1 : v < 1
  · go_enter Tryz.func102, Tryz.ntmps102
    go_wp2_with (go_at_call 108; refine (hTree _).mono ?_; rintro e w1 ⟨rfl, hb1⟩; have hz1 := hb1.size; (try simp at hz1); obtain ⟨q0, f0⟩ := kept_cell hb1 0 (.int .i64 0) rfl; obtain ⟨q1, f1⟩ := kept_cell hb1 1 (.int .i64 0) rfl; obtain ⟨q2, f2⟩ := kept_cell hb1 2 (.int .i64 0) rfl; obtain ⟨q3, f3⟩ := kept_cell hb1 3 (.string ⟨#[]⟩) rfl; obtain ⟨q4, f4⟩ := kept_cell hb1 4 (.int .i64 0) rfl)
    rw [setCell_self q0, setCell_self q1, setCell_self q2, setCell_self q3, setCell_self q4]
    refine bodyPost_ret (res_row [.int .i64 0, .int .i64 0, .int .i64 0, .string ⟨#[]⟩, .int .i64 0] rfl rfl rfl (by kernel_rfl) (range5 q0 q1 q2 q3 q4)) rfl ?_
    exact ⟨rfl, bel_then (bel_alloc (Below.refl _ _) _) hb1⟩
  · by_cases h2 : v > 99999999
    · go_enter Tryz.func102, Tryz.ntmps102
      go_wp2_with (go_at_call 108; refine (hTree _).mono ?_; rintro e w1 ⟨rfl, hb1⟩; have hz1 := hb1.size; (try simp at hz1); obtain ⟨q0, f0⟩ := kept_cell hb1 0 (.int .i64 0) rfl; obtain ⟨q1, f1⟩ := kept_cell hb1 1 (.int .i64 0) rfl; obtain ⟨q2, f2⟩ := kept_cell hb1 2 (.int .i64 0) rfl; obtain ⟨q3, f3⟩ := kept_cell hb1 3 (.string ⟨#[]⟩) rfl; obtain ⟨q4, f4⟩ := kept_cell hb1 4 (.int .i64 0) rfl)
      rw [setCell_self q0, setCell_self q1, setCell_self q2, setCell_self q3, setCell_self q4]
      refine bodyPost_ret (res_row [.int .i64 0, .int .i64 0, .int .i64 0, .string ⟨#[]⟩, .int .i64 0] rfl rfl rfl (by kernel_rfl) (range5 q0 q1 q2 q3 q4)) rfl ?_
      exact ⟨rfl, bel_then (bel_alloc (Below.refl _ _) _) hb1⟩
    · go_enter Tryz.func102, Tryz.ntmps102
      go_wp2_with (first
        | (go_at_call 98; refine (hKey _ _ (by omega) (by omega)).mono ?_; rintro e w1 ⟨⟨t, rfl, ht⟩, hb1⟩; have hz1 := hb1.size; (try simp at hz1))
        | (go_at_call 136; refine (hGet _ _).mono ?_; rintro e w2 ⟨rfl, hb2⟩; have hz2 := hb2.size; obtain ⟨q0, f0⟩ := kept_more hb2 (by omega) (kept_cell hb1 0 (.int .i64 0) rfl); obtain ⟨q1, f1⟩ := kept_more hb2 (by omega) (kept_cell hb1 1 (.int .i64 0) rfl); obtain ⟨q2, f2⟩ := kept_more hb2 (by omega) (kept_cell hb1 2 (.int .i64 0) rfl); obtain ⟨q3, f3⟩ := kept_more hb2 (by omega) (kept_cell hb1 3 (.string ⟨#[]⟩) rfl); obtain ⟨q4, f4⟩ := kept_more hb2 (by omega) (kept_cell hb1 4 (.int .i64 0) rfl)))
      rw [setCell_self q0, setCell_self q1, setCell_self q2, setCell_self q3, setCell_self q4]
      refine bodyPost_ret (res_row [.int .i64 0, .int .i64 0, .int .i64 0, .string ⟨#[]⟩, .int .i64 0] rfl rfl rfl (by kernel_rfl) (range5 q0 q1 q2 q3 q4)) rfl ?_
      exact ⟨rfl, bel_then (bel_then (bel_alloc (Below.refl _ _) _) hb1) hb2⟩

theorem results_cell_tmp2 {fn : Func} {p u x : Tmp} {ty : TypeId} (h : fn.results = #[.cell p ty, .tmp u, .tmp x]) (tmps : Array Value) (P : Program) (w : World) :
    (results fn tmps).run P w = ((asAddr (tmps.getD p undef)).run P w).andThen fun a w₁ => ((loadVar ty a).run P w₁).andThen fun v w₂ => .ok (.tuple #[v, tmps.getD u undef, tmps.getD x undef]) w₂ := by
  simp only [results, h]
  simp [Sem.run_bind, Result.andThen]

theorem res_row2 {P : Program} {fn : Func} {p u u' : Tmp} {t : TypeId} {b : Nat} {tmps : Array Value} {w : World} {x x' : Value} (vs : List Value) (h : fn.results = #[.cell p t, .tmp u, .tmp u']) (hp : tmps.getD p undef = .pointer (some ⟨b, 0, none⟩)) (hu : tmps.getD u undef = x) (hu' : tmps.getD u' undef = x') (hB : rowB P t vs.length = true) (hr : w.rangeAt b 0 vs) :
    (results fn tmps).run P w = .ok (.tuple #[.agg vs.toArray, x, x']) w := by
  rw [results_cell_tmp2 h, hp]
  simp [asAddr, load_row vs hB hr, Result.andThen, hu, hu']

theorem lt_of_below {w w1 : World} {o : Obj} {n : Nat} (h : Below n (w.alloc o) w1) : w.heap.size < w1.heap.size := by
  have := h.size
  simp at this
  omega

theorem kept_alloc {w1 : World} {b j : Nat} {v : Value} (hb : b < w1.heap.size) (q : w1.cell? ⟨b, j, none⟩ = some v ∧ w1.frozen? ⟨b, j, none⟩ = false) :
    (∀ o, (w1.alloc o).cell? ⟨b, j, none⟩ = some v) ∧ (∀ o, (w1.alloc o).frozen? ⟨b, j, none⟩ = false) :=
  ⟨fun o => (World.cell?_alloc_past _ _ _ hb).trans q.1, fun o => (World.frozen?_alloc_past _ _ _ hb).trans q.2⟩

set_option maxHeartbeats 4000000 in
theorem look_any (hFind : ∀ (v : Int) (W : World), Calls Tryz.prog 102 #[.pointer none, .int .i64 v] W (Gives0 (.tuple #[zSess, .int .i64 1]) W))
    (v : Int) (w : World) : Calls Tryz.prog 27 #[.pointer none, .int .i64 v, .int .i64 1] w (Gives0 (.tuple #[zRep, .bool false, .int .i64 1]) w) := by
  go_enter Tryz.func27, Tryz.ntmps27
  go_wp2_with (go_at_call 102; refine (hFind _ _).mono ?_; rintro e w1 ⟨rfl, hb1⟩; have hz1 : w.heap.size < w1.heap.size := lt_of_below hb1; obtain ⟨q0, f0⟩ := kept_cell hb1 0 (.int .i64 0) rfl; obtain ⟨q1, f1⟩ := kept_cell hb1 1 (.string ⟨#[]⟩) rfl; obtain ⟨q2, f2⟩ := kept_cell hb1 2 (.int .i64 0) rfl)
  rw [setCell_self q0, setCell_self q1, setCell_self q2]
  obtain ⟨q0, f0⟩ := kept_alloc hz1 ⟨q0, f0⟩
  obtain ⟨q1, f1⟩ := kept_alloc hz1 ⟨q1, f1⟩
  obtain ⟨q2, f2⟩ := kept_alloc hz1 ⟨q2, f2⟩
  refine bodyPost_ret (res_row2 [.int .i64 0, .string ⟨#[]⟩, .int .i64 0] rfl rfl rfl rfl (by kernel_rfl) (range3 (q0 _) (q1 _) (q2 _))) rfl ?_
  exact ⟨rfl, bel_alloc (bel_then (bel_alloc (Below.refl _ _) _) hb1) _⟩

set_option maxHeartbeats 4000000 in
theorem expire_any (hFind : ∀ (v : Int) (W : World), Calls Tryz.prog 102 #[.pointer none, .int .i64 v] W (Gives0 (.tuple #[zSess, .int .i64 1]) W))
    (v : Int) (w : World) : Calls Tryz.prog 30 #[.pointer none, .int .i64 v] w (Gives0 (.int .i64 1) w) := by
  go_enter Tryz.func30, Tryz.ntmps30
  go_wp2_with (go_at_call 102; refine (hFind _ _).mono ?_; rintro e w1 ⟨rfl, hb1⟩)
  go_ret
  exact ⟨rfl, bel_alloc hb1 _⟩

set_option maxHeartbeats 4000000 in
theorem save_any (hLook : ∀ (v : Int) (W : World), Calls Tryz.prog 27 #[.pointer none, .int .i64 v, .int .i64 1] W (Gives0 (.tuple #[zRep, .bool false, .int .i64 1]) W))
    (v : Int) (w : World) : Calls Tryz.prog 31 #[.pointer none, .int .i64 v, .int .i64 1, zRep] w (Gives0 (.int .i64 1) w) := by
  go_enter Tryz.func31, Tryz.ntmps31
  go_wp2_with (go_at_call 27; refine (hLook _ _).mono ?_; rintro e w1 ⟨rfl, hb1⟩)
  go_ret
  exact ⟨rfl, bel_alloc (bel_then (bel_alloc (Below.refl _ _) _) hb1) _⟩

set_option maxHeartbeats 4000000 in
theorem sess_walk (hAl : ∀ W, Calls Tryz.prog 29 #[] W (TrueB W))
    (hReg : ∀ (v : Int) (W : World), Calls Tryz.prog 26 #[.pointer none, .int .i64 v] W (Gives0 (.tuple #[.int .i64 0, .int .i64 1]) W))
    (hList : ∀ (W : World), Calls Tryz.prog 28 #[.pointer none] W (Gives0 (.tuple #[.slice none 0 0, .int .i64 1]) W))
    (hLook : ∀ (v : Int) (W : World), Calls Tryz.prog 27 #[.pointer none, .int .i64 v, .int .i64 1] W (Gives0 (.tuple #[zRep, .bool false, .int .i64 1]) W))
    (hExp : ∀ (v : Int) (W : World), Calls Tryz.prog 30 #[.pointer none, .int .i64 v] W (Gives0 (.int .i64 1) W))
    (hSave : ∀ (v : Int) (W : World), Calls Tryz.prog 31 #[.pointer none, .int .i64 v, .int .i64 1, zRep] W (Gives0 (.int .i64 1) W))
    (v : Int) (w : World) : Calls Tryz.prog 5 #[.int .i64 v] w (TrueB w) := by
  go_enter Tryz.func5, Tryz.ntmps5
  go_wp2_with (first
    | (go_at_call 29; refine (hAl _).mono ?_; rintro e w4 ⟨rfl, hb4⟩)
    | (go_at_call 26; refine (hReg _ _).mono ?_; rintro e w1 ⟨rfl, hb1⟩)
    | (go_at_call 27; refine (hLook _ _).mono ?_; rintro e w2 ⟨rfl, hb2⟩)
    | (go_at_call 28; refine (hList _).mono ?_; rintro e w3 ⟨rfl, hb3⟩)
    | (go_at_call 30; refine (hExp _ _).mono ?_; rintro e w5 ⟨rfl, hb5⟩)
    | (go_at_call 31; refine (hSave _ _).mono ?_; rintro e w6 ⟨rfl, hb6⟩))
  go_ret
  exact ⟨rfl, bel_then (bel_then (bel_then (bel_then (bel_alloc (bel_then hb1 hb2) _) hb3) hb4) hb5) hb6⟩
end Go.Ev
