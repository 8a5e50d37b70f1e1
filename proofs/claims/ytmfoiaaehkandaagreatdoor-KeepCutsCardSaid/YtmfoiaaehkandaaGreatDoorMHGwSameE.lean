/-
  Texts of this claim.
-/
import Derived.Test.YtmfoiaaehkandaaGreatDoorMHGwKeepRlog
set_option linter.unusedVariables false
set_option linter.unusedSimpArgs false
namespace Go.Ev
open Go.Proofs Go.RowKit
theorem ent_cells {w : World} {A : Option Addr} {n c : Nat} {l : List LogE} (h : Sl w 4 (.slice A n c) n (l.flatMap entCs)) {i : Nat} (hi : i < n) (hiL : i < l.length) : ∃ blk off, A = some ⟨blk, off, none⟩ ∧ blk < w.heap.size ∧ w.cell? ⟨blk, off + i * 4, none⟩ = some (.int .i64 l[i].idx) ∧ w.cell? ⟨blk, off + i * 4 + 1, none⟩ = some (.int .i64 l[i].term) ∧ w.cell? ⟨blk, off + i * 4 + 2, none⟩ = some (.int .i64 l[i].kind) ∧ w.cell? ⟨blk, off + i * 4 + 3, none⟩ = some (strV l[i].data) := by
 obtain ⟨_, _, e0, _, _, hcl⟩ := h
 cases e0
 obtain ⟨blk, off, rfl, hbl, hcell⟩ := hcl (by omega)
 have hx : ∀ r u, (entCs l[i])[r]? = some u → w.cell? ⟨blk, off + (i * 4 + r), none⟩ = some u := fun r u hu => by
  have hr : r < 4 := by have := (List.getElem?_eq_some_iff.1 hu).1; simpa [entCs_len] using this
  exact hcell _ _ (by rw [flat_at entCs_len l i r hiL hr]; exact hu)
 exact ⟨blk, off, rfl, hbl, hx 0 _ rfl, hx 1 _ rfl, hx 2 _ rfl, hx 3 _ rfl⟩
set_option maxHeartbeats 2000000 in
set_option maxRecDepth 100000 in
theorem sameEnt_ok (A B : Option Addr) (n c d : Nat) (l : List LogE) (w : World) (ha : Sl w 4 (.slice A n c) n (l.flatMap entCs)) (hb : Sl w 4 (.slice B n d) n (l.flatMap entCs)) (hl : l.length = n) (hn : n ≤ 1000000) :
  Calls Tryz.prog 19 #[.slice A n c, .slice B n d] w fun e w' => e = .returned (.bool true) ∧ Below w.heap.size w w' := by
 have HA := Hdz ha
 have HB := Hdz hb
 have HL := Hdz hl
 have hne : ((n : Int) != (n : Int)) = false := by simp
 clear ha hb hl
 go_enter Tryz.func19, Tryz.ntmps19
 go_wp2_with (fail)
 go_loopg [5] n (fun gk s5 wr => ∃ i : Nat, s5 = .int .i64 (i : Int) ∧ i + gk = n ∧ Hid (Below w.heap.size w wr))
 case atStart => exact ⟨0, rfl, by omega, Below.refl _ _⟩
 case round =>
  obtain ⟨i, rfl, hi, hbw⟩ := hrel
  obtain ⟨wo, rfl⟩ : ∃ wo, wo = wr := ⟨_, rfl⟩
  by_cases h1 : i < n
  ·have h1' : (i : Int) < (n : Int) := by omega
   have hi0 : (0 : Int) ≤ (i : Int) := by omega
   have hw1 : IntKind.i64.wrap ((i : Int) + 1) = (i : Int) + 1 := IntWalk.i64_in _ (by omega)
   have hiL : i < l.length := by have := HL.out; omega
   obtain ⟨ba, oa, rfl, -, x0, x1, x2, x3⟩ := ent_cells (HA.out.below hbw.out) h1 hiL
   obtain ⟨bb, ob, rfl, -, y0, y1, y2, y3⟩ := ent_cells (HB.out.below hbw.out) h1 hiL
   generalize l[i] = o at *
   clear hiL
   go_wp2_with (fail)
   refine wRz ?_
   try simp only [lAz]
   refine tA 0 ?_; try simp only [lAz]
   refine tA 1 ?_; try simp only [lAz]
   refine tA 2 ?_; try simp only [lAz]
   refine tA 4 ?_; try simp only [lAz]
   refine tA 5 ?_; try simp only [lAz]
   refine tA 6 ?_; try simp only [lAz]
   refine rA 3 (v := ?_) (hy := ?hy) ?_; case hy => (intro w hE; have q0 := hE.cell x0; have q1 := hE.cell x1; have q2 := hE.cell x2; have q3 := hE.cell x3; go_simp; try with_reducible rfl)
   try simp only [lAz]
   refine rA 7 (v := ?_) (hy := ?hy) ?_; case hy => (intro w hE; have q0 := hE.cell y0; have q1 := hE.cell y1; have q2 := hE.cell y2; have q3 := hE.cell y3; go_simp; try with_reducible rfl)
   try simp only [lAz]
   refine rZz 8 fun K hK => ?_; go_simp; apply hK; clear hK K
   refine rZz 9 fun K hK => ?_; go_simp; apply hK; clear hK K
   refine wDz ?_
   go_wp2_with (fail)
   go_roundg (gk - 1)
   case measure => omega
   case rel => exact ⟨i + 1, by simp, by omega, hbw.out.drew⟩
  ·have h1' : ¬ (i : Int) < (n : Int) := by omega
   go_wp2_with (fail)
   go_ret
   exact ⟨rfl, hbw.out⟩
end Go.Ev
