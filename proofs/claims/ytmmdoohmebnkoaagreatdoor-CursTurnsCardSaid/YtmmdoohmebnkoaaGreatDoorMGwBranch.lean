/-
  Children are laid into a branch's bytes.
-/
import Derived.Test.YtmmdoohmebnkoaaGreatDoorMGwSplit
import Derived.Test.YtmmdoohmebnkoaaGreatDoorMGvBranch
set_option linter.unusedVariables false
set_option linter.unusedSimpArgs false
namespace Go.Ev
open Go.Proofs Go.RowKit

def childCs (x : Child) : List Value := [strV x.key, .int .i64 x.page]
def childrenCs : List Child → List Value
  | [] => []
  | x :: l => childCs x ++ childrenCs l

theorem childrenCs_len : ∀ l : List Child, (childrenCs l).length = l.length * 2
  | [] => rfl
  | x :: l => by
    simp only [childrenCs, List.length_append, childrenCs_len l, List.length_cons]
    show 2 + _ = _
    omega
theorem childrenCs_at : ∀ (l : List Child) (k j : Nat) (hk : k < l.length), j < 2 → (childrenCs l)[k * 2 + j]? = (childCs l[k])[j]?
  | x :: l, 0, j, hk, hj => by
    simp only [childrenCs, Nat.zero_mul, Nat.zero_add, List.getElem_cons_zero]
    rw [List.getElem?_append_left (by show j < 2; omega)]
  | x :: l, k + 1, j, hk, hj => by
    simp only [childrenCs, List.getElem_cons_succ]
    rw [List.getElem?_append_right (by show 2 ≤ _; omega)]
    have e : (k + 1) * 2 + j - (childCs x).length = k * 2 + j := by show (k + 1) * 2 + j - 2 = _; omega
    rw [e]
    exact childrenCs_at l k j (by simpa using hk) hj

theorem child_cells {w : World} {blk off : Nat} {l : List Child} (hcell : ∀ j u, (childrenCs l)[j]? = some u → w.cell? ⟨blk, off + j, none⟩ = some u) {k : Nat} (hk : k < l.length) : ∀ j u, (childCs l[k])[j]? = some u → w.cell? ⟨blk, off + k * 2 + j, none⟩ = some u := by
  intro j u hu
  have hj : j < 2 := (List.getElem?_eq_some_iff.1 hu).1
  rw [Nat.add_assoc]
  exact hcell _ _ ((childrenCs_at l k j hk hj).trans hu)
theorem child_2 {w : World} {blk o : Nat} {x : Child} (h : ∀ j u, (childCs x)[j]? = some u → w.cell? ⟨blk, o + j, none⟩ = some u) :
    w.cell? ⟨blk, o, none⟩ = some (strV x.key) ∧ w.cell? ⟨blk, o + 1, none⟩ = some (.int .i64 x.page) := ⟨h 0 _ rfl, h 1 _ rfl⟩

theorem childrenCs_snoc (x : Child) : ∀ l : List Child, childrenCs (l ++ [x]) = childrenCs l ++ childCs x
  | [] => by simp [childrenCs]
  | y :: l => by simp only [List.cons_append, childrenCs, childrenCs_snoc x l, List.append_assoc]
theorem childrenCs_append : ∀ a b : List Child, childrenCs (a ++ b) = childrenCs a ++ childrenCs b
  | [], b => rfl
  | x :: a, b => by simp only [List.cons_append, childrenCs, childrenCs_append a b, List.append_assoc]
theorem childrenCs_take : ∀ (l : List Child) (k : Nat), (childrenCs l).take (k * 2) = childrenCs (l.take k)
  | [], k => by simp [childrenCs]
  | x :: l, 0 => by simp [childrenCs]
  | x :: l, k + 1 => by
    have e : (k + 1) * 2 = (childCs x).length + k * 2 := by show _ = 2 + _; omega
    simp only [childrenCs, List.take_succ_cons, e, List.take_append, Nat.add_sub_cancel_left, childrenCs_take l k]
    rw [List.take_of_length_le (by omega)]
theorem childrenCs_drop : ∀ (l : List Child) (k : Nat), (childrenCs l).drop (k * 2) = childrenCs (l.drop k)
  | [], k => by simp [childrenCs]
  | x :: l, 0 => by simp [childrenCs]
  | x :: l, k + 1 => by
    have e : (k + 1) * 2 = (childCs x).length + k * 2 := by show _ = 2 + _; omega
    simp only [childrenCs, List.drop_succ_cons, e, List.drop_append, Nat.add_sub_cancel_left, childrenCs_drop l k]
    rw [List.drop_of_length_le (by omega)]
    rfl
theorem childrenCs_one : ∀ (l : List Child), ∀ u ∈ childrenCs l, u.oneCell' = true
  | [], u, h => by simp [childrenCs] at h
  | x :: l, u, h => by
    simp only [childrenCs, List.mem_append] at h
    rcases h with h | h
    · simp only [childCs, List.mem_cons, List.not_mem_nil, or_false] at h
      rcases h with rfl | rfl <;> rfl
    · exact childrenCs_one l u h

theorem Sl.len2 {w : World} {A : Option Addr} {n c : Nat} {l : List Child} (h : Sl w 2 (.slice A n c) n (childrenCs l)) : l.length = n := by
  obtain ⟨_, _, e, _, h1, _⟩ := h
  rw [childrenCs_len] at h1
  omega

/-- The cells of a child in a box. -/
def BoxC (w : World) (g : Nat) (x : Child) : Prop := Blk w g 98 #[strV x.key, .int .i64 x.page]
theorem BoxC.c {w : World} {g : Nat} {x : Child} (h : BoxC w g x) : w.cell? ⟨g, 0, none⟩ = some (strV x.key) ∧ w.cell? ⟨g, 1, none⟩ = some (.int .i64 x.page) := ⟨Blk.cell h 0, Blk.cell h 1⟩

theorem var1_at (g : Nat) (x : Int) (W : World) (hg : g < W.heap.size) (hc : W.cell? ⟨g, 0, none⟩ = some (.int .i64 x)) (hx : I64 x) :
    Calls Tryz.prog 138 #[.slice (some ⟨g, 0, none⟩) 1 1] W fun e w' => e = .returned (strV (varB x)) ∧ Below W.heap.size W w' := by
  refine (vars_any _ 1 1 [x] _ ⟨_, _, rfl, Nat.le_refl _, by simp, fun _ => ⟨g, 0, rfl, hg, fun j u hu => ?_⟩⟩ (by simp [hx]) (by omega)).mono ?_
  · match j with
    | 0 => cases hu; exact hc
    | j + 1 => simp at hu
  · rintro e w' ⟨rfl, hb⟩
    exact ⟨by simp [varsB], hb⟩

theorem Blk.new' {w : World} {t : TypeId} {cs : Array Value} {g : Nat} (h : g = w.heap.size) : Blk (w.alloc (.cells cs t)) g t cs := h ▸ Blk.new w t cs

theorem text_b (g : Nat) (s : Bytes) (W : World) (h : Blk W g 9 #[strV s]) (hs : (textB s).length ≤ 100000) :
    Calls Tryz.prog 136 #[.slice (some ⟨g, 0, none⟩) 1 1] W fun e w' => e = .returned (strV (textB s)) ∧ Below W.heap.size W w' := text_at g s W h.lt (h.cell 0) hs
theorem var_b (g : Nat) (x : Int) (W : World) (h : Blk W g 3 #[.int .i64 x]) (hx : I64 x) :
    Calls Tryz.prog 138 #[.slice (some ⟨g, 0, none⟩) 1 1] W fun e w' => e = .returned (strV (varB x)) ∧ Below W.heap.size W w' := var1_at g x W h.lt (h.cell 0) hx

set_option maxHeartbeats 4000000 in
set_option maxRecDepth 100000 in
theorem layC_any (A : Option Addr) (n c : Nat) (l : List Child) (w : World) (hv : Sl w 2 (.slice A n c) n (childrenCs l)) (hL : (layC l).length ≤ 100000) (hn : n ≤ 100000) (hI : ∀ x ∈ l, I64 x.page) :
    Calls Tryz.prog 142 #[.slice A n c] w fun e w' => e = .returned (strV (layC l)) ∧ Below w.heap.size w w' := by
  have hl1 : l.length = n := hv.len2
  go_enter Tryz.func142, Tryz.ntmps142
  go_wp2
  go_loopw [8] (fun i wr => ∃ (k : Nat) (F : Option Nat), k ≤ n ∧ i = .int .i64 (k : Int) ∧ Bd wr w.heap.size w.heap.size F (layC (l.take k)) ∧ Below w.heap.size w wr) (fun i _ => n - (Go.RowKit.intOf i).toNat)
  case atStart => exact ⟨0, none, by omega, rfl, Bd.new w, (Below.refl _ _).alloc (Nat.le_refl _) _⟩
  case round =>
    obtain ⟨k, F, hk, rfl, hB, hb⟩ := hrel
    have hT := layC_le l k
    have hz := hb.size
    by_cases hlt : k < n
    · obtain ⟨A', c', e0, h0, h1, h2⟩ := hv
      cases e0
      obtain ⟨blk, off, rfl, hbl, hcell⟩ := h2 (by omega)
      have hk' : k < l.length := by omega
      obtain ⟨i0, i1⟩ := child_2 (w := wr) fun j u hu => (hb.cell (p := ⟨blk, off + k * 2 + j, none⟩) hbl).trans (child_cells hcell hk' j u hu)
      have hS : Hid (layC (l.take (k + 1)) = layC (l.take k) ++ l[k].lay) := layC_take hk'
      have hT1 := layC_le l (k + 1)
      have hI1 := hI l[k] (List.getElem_mem hk')
      have hT2 : (layC (l.take k)).length + (l[k].lay).length ≤ 100000 := by
        have := congrArg List.length hS.out
        simp only [List.length_append] at this
        omega
      clear hcell h2 h1 hl1 hT1 hI
      generalize l[k] = x at *
      have hx0 : (textB x.key).length ≤ 100000 := by
        simp only [Child.lay, List.length_append] at hT2
        omega
      have bx0 : BoxC (wr.alloc (.cells #[strV x.key, .int .i64 x.page] 98)) wr.heap.size x := Blk.new _ _ _
      have hgb : wr.heap.size ≠ w.heap.size := by have := hB.lt; omega
      have hx1 : (layC (l.take k)).length + ((textB x.key).length + (varB x.page).length) ≤ 100000 := by
        simp only [Child.lay, List.length_append] at hT2
        exact hT2
      go_wp2
      obtain ⟨p0, p1⟩ := BoxC.c bx0
      go_region_with (first
        | (go_at_call 136; go_must (refine (text_b _ _ _ (by first | (refine Blk.drew (Blk.new' ?_); simp; done) | (refine Blk.drew (Blk.alloc (Blk.new' ?_) _); simp; done)) hx0).mono ?_); rintro e w1 ⟨rfl, hb1⟩; have hB1 : Bd w1 w.heap.size w.heap.size F (layC (l.take k)) := (by first | exact Bd.below ((hB.alloc _).alloc _).drew hb1 | exact Bd.below (((hB.alloc _).alloc _).alloc _).drew hb1); have bx1 : BoxC w1 wr.heap.size x := (by first | exact Blk.below' (Blk.alloc bx0 _).drew hb1 | exact Blk.below' (Blk.alloc (Blk.alloc bx0 _) _).drew hb1); have hbw1 : Below w.heap.size w w1 := (by first | (refine (((hb.alloc hz _).alloc ?_ _).drew).trans (hb1.mono ?_) <;> (simp; omega)) | (refine ((((hb.alloc hz _).alloc ?_ _).alloc ?_ _).drew).trans (hb1.mono ?_) <;> (simp; omega))); have hz1 := hbw1.size; have q1 := BoxC.c bx1)
        | (go_at_call 138; go_must (refine (var_b _ _ _ (by first | (refine Blk.new' ?_; simp; done) | (refine Blk.below' (Blk.drew (Blk.new' ?_)) hb1; simp; done) | (refine Blk.below' (Blk.drew (Blk.alloc (Blk.new' ?_) _)) hb1; simp; done)) hI1).mono ?_); rintro e w2 ⟨rfl, hb2⟩; have hB1' : Bd w2 w.heap.size w.heap.size F (layC (l.take k)) := (by first | exact Bd.below (hB1.alloc _) hb2 | exact Bd.below hB1 hb2); have hz12 : w.heap.size ≤ w2.heap.size := (by first | (have h9 := hb2.size; omega) | (have h9 := hb2.size; simp at h9; omega)); have hbw2 : Below w.heap.size w w2 := (by first | (refine (hbw1.alloc hz1 _).trans (hb2.mono ?_); simp; omega) | exact hbw1.trans (hb2.mono hz1)))
        | (go_at_call 113; go_must (refine (bw_string hB1' _ (by simp; omega) hz12).mono ?_); rintro e w3 ⟨rfl, ⟨F2, hB2⟩, K2⟩; have hbw3 := hbw2.trans (hB1'.below_of K2 hz12)))
      all_goals
        go_wp2
        go_roundw
        case rel =>
          refine ⟨k + 1, F2, by omega, by go_num, ?_, hbw3⟩
          rw [hS.out]
          unfold Child.lay
          exact hB2
        case measure => simp [Go.RowKit.intOf]; omega
    · have hkn : k = n := by omega
      subst hkn
      have ht : l.take k = l := List.take_of_length_le (by omega)
      rw [ht] at hB
      clear hv ht hl1
      go_wp2_with (go_at_call 114; refine (bw_text hB).mono ?_; rintro e w1 ⟨rfl, hb1⟩)
      go_ret
      exact ⟨rfl, hb.trans hb1⟩
end Go.Ev
