/-
  Children with others in the place of one.
-/
import Derived.Test.YtmmdoohmebnkoaaGreatDoorMGwConcat
set_option linter.unusedVariables false
set_option linter.unusedSimpArgs false
namespace Go.Ev
open Go.Proofs Go.RowKit

theorem childrenCs_head (c : Child) (L : List Child) (k : Bytes) : (childrenCs (c :: L)).set 0 (strV k) = childrenCs (headKey k (c :: L)) := by
  simp [childrenCs, headKey, childCs]

def OwnsC (w : World) (base : Nat) (v : Value) (L : List Child) : Prop := w.ownsRow base 98 2 v L.length (childrenCs L)

def ReplPost (L : List Child) (w : World) (e : Ending) (w' : World) : Prop := ∃ v', e = .returned v' ∧ OwnsC w' w.heap.size v' L ∧ Below w.heap.size w w'

set_option maxHeartbeats 1000000 in
set_option maxRecDepth 100000 in
theorem replC_any (A B : Option Addr) (n c m d i : Nat) (l x : List Child) (w : World) (hv : Sl w 2 (.slice A n c) n (childrenCs l)) (hx : Sl w 2 (.slice B m d) m (childrenCs x)) (hB : B = none → d = 0) (hn : n ≤ 10000) (hm : m ≤ 10000) (hi : i < n) :
    Calls Tryz.prog 72 #[.slice A n c, .int .i64 i, .slice B m d] w (ReplPost (headKey [] (l.take i ++ x ++ l.drop (i + 1))) w) := by
  have hl := hv.len2
  have hlx := hx.len2
  subst hl
  obtain ⟨A', c', e0, h0, h1, hA⟩ := id hv
  cases e0
  obtain ⟨blk, off, rfl, hbl, hcell⟩ := hA (by omega)
  clear hA h1 hcell
  obtain ⟨A3, hA3, hs3⟩ : ∃ A3, (if c = i + 1 then some ⟨blk, off, none⟩ else some (⟨blk, off + (i + 1) * 2, none⟩ : Addr)) = some A3 ∧ Sl w 2 (.slice (some A3) (l.length - (i + 1)) (c - (i + 1))) (l.length - (i + 1)) (childrenCs (l.drop (i + 1))) := by
    by_cases hc : c = i + 1
    · refine ⟨_, if_pos hc, ?_⟩
      have : l.length - (i + 1) = 0 := by omega
      rw [this, List.drop_of_length_le (by omega)]
      exact Sl.nil ..
    · refine ⟨_, if_neg hc, ?_⟩
      rw [← childrenCs_drop]
      exact Sl.drop hv (by omega)
  have hs1 : Sl w 2 (.slice (some ⟨blk, off, none⟩) i c) i (childrenCs (l.take i)) := by
    rw [← childrenCs_take]
    exact Sl.take hv (by omega)
  have hw1 : IntKind.i64.wrap ((i : Int) + 1) = (i : Int) + 1 := IntWalk.i64_in _ (by omega)
  have hb1 : (0 : Int) ≤ (i : Int) + 1 := by omega
  have htn : ((i : Int) + 1).toNat = i + 1 := by omega
  have hic : i ≤ c := by omega
  have hil : i + 1 ≤ l.length := by omega
  have hil' : (i : Int) + 1 ≤ (l.length : Int) := by omega
  have hlt : (i : Int) < (l.length : Int) := by omega
  have hnn : ¬ (i : Int) < 0 := by omega
  have hW : ∀ W, Below w.heap.size w W → ∀ g, W.heap[g]? = some (.cells #[.slice (some ⟨blk, off, none⟩) i c, .slice B m d, .slice (some A3) (l.length - (i + 1)) (c - (i + 1))] 57 (0, 0)) →
      Calls Tryz.prog 105 #[.slice (some ⟨g, 0, none⟩) 3 3] W fun e w' =>
        ∃ v', e = .returned v' ∧ OwnsC w' W.heap.size v' (l.take i ++ x ++ l.drop (i + 1)) ∧ Below W.heap.size W w' := by
    intro W hbW g hg
    have hgl : g < W.heap.size := (Array.getElem?_eq_some_iff.1 hg).1
    have hgc := fun k => cell_of_row W g k _ _ (0, 0) hg
    have := concatC_any g 3 [⟨some ⟨blk, off, none⟩, i, c, l.take i⟩, ⟨B, m, d, x⟩, ⟨some A3, l.length - (i + 1), c - (i + 1), l.drop (i + 1)⟩] W hgl (Nat.le_refl _) ?_ ?_ (by simp only [sumP]; omega) (by simp)
    · refine this.mono ?_
      rintro e w' ⟨v', h1, h2, h3⟩
      refine ⟨v', h1, ?_, h3⟩
      unfold OwnsC
      have e1 : (l.take i ++ x ++ l.drop (i + 1)).length = sumP [⟨some ⟨blk, off, none⟩, i, c, l.take i⟩, ⟨B, m, d, x⟩, ⟨some A3, l.length - (i + 1), c - (i + 1), l.drop (i + 1)⟩] := by
        simp only [sumP, List.length_append, List.length_take, List.length_drop]; omega
      have e2 : catP [⟨some ⟨blk, off, none⟩, i, c, l.take i⟩, ⟨B, m, d, x⟩, ⟨some A3, l.length - (i + 1), c - (i + 1), l.drop (i + 1)⟩] = l.take i ++ x ++ l.drop (i + 1) := by
        simp [catP]
      rw [e1, ← e2]
      exact h2
    · intro k hk
      rw [hgc]
      match k with
      | 0 => rfl
      | 1 => rfl
      | 2 => rfl
      | k + 3 => exact absurd hk (by simp)
    · intro p hp
      simp only [List.mem_cons, List.not_mem_nil, or_false] at hp
      have hK : Keeps (fun _ => False) w W := Keeps.of_below hbW
      rcases hp with rfl | rfl | rfl
      · exact ⟨hs1.below hbW, fun h => by cases h⟩
      · exact ⟨hx.below hbW, hB⟩
      · exact ⟨hs3.below hbW, fun h => by cases h⟩
  have HW := Lib.hid hW
  obtain ⟨L, hL⟩ : ∃ L, L = l.take i ++ x ++ l.drop (i + 1) := ⟨_, rfl⟩
  rw [← hL] at HW ⊢
  clear hW hL hs1 hs3 hv hx hlx
  go_enter Tryz.func72, Tryz.ntmps72
  go_wp2
  refine wp_region_any (by kernel_rfl) ?_
  change wpAny _ _ _ _ _ _ _ (World.drew _)
  try simp only [Act.put, List.setIfInBounds_toArray, List.set_cons_zero, List.set_cons_succ]
  refine wpAny_take (oi := { dst := _, op := _, type := _, pos := _, after := _, guard := _ }) (i := 0) (v := ?_) rfl (by kernel_rfl) (by kernel_rfl) (by kernel_rfl) (fun _ _ _ h => h) (Or.inl ⟨by rfl, ?hy⟩) ?_
  case hy => (intro w; go_simp; try with_reducible rfl)
  try simp only [Act.put, List.setIfInBounds_toArray, List.set_cons_zero, List.set_cons_succ]
  try simp only [Act.put, List.setIfInBounds_toArray, List.set_cons_zero, List.set_cons_succ]
  refine wpAny_take (oi := { dst := _, op := _, type := _, pos := _, after := _, guard := _ }) (i := 1) (v := ?_) rfl (by kernel_rfl) (by kernel_rfl) (by kernel_rfl) (fun _ _ _ h => h) (Or.inl ⟨by rfl, ?hy⟩) ?_
  case hy => (intro w; go_simp; try with_reducible rfl)
  try simp only [Act.put, List.setIfInBounds_toArray, List.set_cons_zero, List.set_cons_succ]
  try simp only [Act.put, List.setIfInBounds_toArray, List.set_cons_zero, List.set_cons_succ]
  refine wpAny_take (oi := { dst := _, op := _, type := _, pos := _, after := _, guard := _ }) (i := 2) (v := ?_) rfl (by kernel_rfl) (by kernel_rfl) (by kernel_rfl) (fun _ _ _ h => h) (Or.inl ⟨by rfl, ?hy⟩) ?_
  case hy => (intro w; go_simp; try with_reducible rfl)
  try simp only [Act.put, List.setIfInBounds_toArray, List.set_cons_zero, List.set_cons_succ]
  try simp only [Act.put, List.setIfInBounds_toArray, List.set_cons_zero, List.set_cons_succ]
  refine wpAny_take (oi := { dst := _, op := _, type := _, pos := _, after := _, guard := _ }) (i := 3) (v := ?_) rfl (by kernel_rfl) (by kernel_rfl) (by kernel_rfl) (fun _ _ _ h => h) (Or.inl ⟨by rfl, ?hy⟩) ?_
  case hy => (intro w; go_simp; try with_reducible rfl)
  try simp only [Act.put, List.setIfInBounds_toArray, List.set_cons_zero, List.set_cons_succ]
  try simp only [Act.put, List.setIfInBounds_toArray, List.set_cons_zero, List.set_cons_succ]
  refine wpAny_take (oi := { dst := _, op := _, type := _, pos := _, after := _, guard := _ }) (i := 4) (v := ?_) rfl (by kernel_rfl) (by kernel_rfl) (by kernel_rfl) (fun _ _ _ h => h) (Or.inl ⟨by rfl, ?hy⟩) ?_
  case hy => (intro w; go_simp; try with_reducible rfl)
  try simp only [Act.put, List.setIfInBounds_toArray, List.set_cons_zero, List.set_cons_succ]
  try simp only [Act.put, List.setIfInBounds_toArray, List.set_cons_zero, List.set_cons_succ]
  refine wpAny_take (oi := { dst := _, op := _, type := _, pos := _, after := _, guard := _ }) (i := 5) (v := ?_) rfl (by kernel_rfl) (by kernel_rfl) (by kernel_rfl) (fun _ _ _ h => h) (Or.inl ⟨by rfl, ?hy⟩) ?_
  case hy => (intro w; go_simp; try with_reducible rfl)
  try simp only [Act.put, List.setIfInBounds_toArray, List.set_cons_zero, List.set_cons_succ]
  try simp only [Act.put, List.setIfInBounds_toArray, List.set_cons_zero, List.set_cons_succ]
  refine wpAny_take (oi := { dst := _, op := _, type := _, pos := _, after := _, guard := _ }) (i := 6) (v := ?_) rfl (by kernel_rfl) (by kernel_rfl) (by kernel_rfl) (fun _ _ _ h => h) (Or.inl ⟨by rfl, ?hy⟩) ?_
  case hy => (intro w; go_simp; try with_reducible rfl)
  try simp only [Act.put, List.setIfInBounds_toArray, List.set_cons_zero, List.set_cons_succ]
  try simp only [Act.put, List.setIfInBounds_toArray, List.set_cons_zero, List.set_cons_succ]
  refine wpAny_take (oi := { dst := _, op := _, type := _, pos := _, after := _, guard := _ }) (i := 7) (v := ?_) rfl (by kernel_rfl) (by kernel_rfl) (by kernel_rfl) (fun _ _ _ h => h) (Or.inl ⟨by rfl, ?hy⟩) ?_
  case hy => (intro w; go_simp; try with_reducible rfl)
  try simp only [Act.put, List.setIfInBounds_toArray, List.set_cons_zero, List.set_cons_succ]
  refine wpAny_ready (rs := [8]) (by kernel_rfl) (by simp) (AllReady.cons (o := { dst := _, op := _, type := _, pos := _, after := _, guard := _ }) rfl (fun K hK => ?_) AllReady.nil)
  go_simp
  refine hK _ _ ?_
  clear hK K
  refine wpAny_ready (rs := [9]) (by kernel_rfl) (by simp) (AllReady.cons (o := { dst := _, op := _, type := _, pos := _, after := _, guard := _ }) rfl (fun K hK => ?_) AllReady.nil)
  go_simp
  (go_must (refine (HW.out _ ((Below.refl _ w).alloc (Nat.le_refl _) _).drew _ (heap_alloc_new w _)).mono ?_); rintro e w1 ⟨v1, rfl, hown, hb1⟩)
  go_simp
  refine hK _ _ ?_
  clear hK K
  refine wpAny_ready (rs := [10]) (by kernel_rfl) (by simp) (AllReady.cons (o := { dst := _, op := _, type := _, pos := _, after := _, guard := _ }) rfl (fun K hK => ?_) AllReady.nil)
  go_simp
  refine hK _ _ ?_
  clear hK K
  refine wpAny_done (by kernel_rfl) ?_ _
  have hz1 := hb1.size
  simp at hz1
  have hbw : Below w.heap.size w w1 := ((Below.refl _ w).alloc (Nat.le_refl _) _).drew.trans (hb1.mono (by simp))
  unfold OwnsC at hown
  cases L with
  | nil =>
    obtain ⟨A2, c2, e2, _⟩ := Sl.of_own hown
    subst e2
    go_wp2
    go_ret
    exact ⟨_, rfl, own_base hown (by simp), hbw⟩
  | cons x0 L =>
    rcases hown.2 with ⟨_, h0⟩ | ⟨g, cap, cur, rfl, hbb, hheap, hnc, hcm, hcs, hcx⟩
    · cases h0
    obtain ⟨u0, d0⟩ : ∃ u, w1.cell? ⟨g, 0, none⟩ = some u := ⟨_, by rw [cell_of_row w1 g _ cur _ (0, 0) hheap]; exact Array.getElem?_eq_getElem (by simp at hnc; omega)⟩
    have f00 := hown.frozenAt 0
    obtain ⟨o0, g0⟩ := hown.stored 0 (strV [])
    rw [childrenCs_head] at o0
    have hgb : w.heap.size ≤ g := by simp at hbb; omega
    have hbw2 : Below w.heap.size w (w1.setCell ⟨g, 0, none⟩ (strV [])) := hbw.setCell (p := ⟨g, 0, none⟩) hgb _
    have O0 := Lib.hid o0
    clear o0 g0 hcx hown
    go_wp2
    go_ret
    exact ⟨_, rfl, own_base (by simpa [headKey] using O0.out) (by simp), hbw2⟩
end Go.Ev
