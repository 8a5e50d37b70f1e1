/-
  Texts of this claim.
-/
import Derived.Test.YtmfoiaaehkandaaGreatDoorMHGwKeepRlog
set_option linter.unusedVariables false
set_option linter.unusedSimpArgs false
set_option maxHeartbeats 2000000
set_option maxRecDepth 100000
namespace Go.Ev
open Go.Proofs Go.RowKit
def RoomP1 (w : World) (e : Ending) (w' : World) : Prop := ∃ r : Int, e = .returned (.int .i64 r) ∧ (-1 ≤ r ∧ r ≤ 60000) ∧ w = w'
theorem room_one (g : Nat) (T : TypeId) (x0 left : Int) (w : World) (h : Blk w g T #[.int .i64 x0]) (h0 : 0 ≤ x0) (hl : -1 ≤ left ∧ left ≤ 60000) :
  Calls Tryz.prog 28 #[.int .i64 left, .slice (some ⟨g, 0, none⟩) 1 1] w (RoomP1 w) := by
 have c0 : w.cell? ⟨g, 0, none⟩ = some (.int .i64 x0) := h.cell 0
 clear h
 go_enter Tryz.func28, Tryz.ntmps28
 go_wp2_with (fail)
 go_loopg [0, 5] 1 (fun gk s0 s5 wr => ∃ (r : Int) (i : Nat), s0 = .int .i64 r ∧ s5 = .int .i64 (i : Int) ∧ i + gk = 1 ∧ -1 ≤ r ∧ r ≤ 60000 ∧ wr = w)
 case atStart => exact ⟨left, 0, rfl, rfl, rfl, hl.1, hl.2, rfl⟩
 case round =>
  obtain ⟨r, i, rfl, rfl, hi, hr1, hr2, rfl⟩ := hrel
  by_cases h2 : i < 1
  ·have hi0 : i = 0 := by omega
   subst hi0
   have h2' : ((0 : Nat) : Int) < 1 := by omega
   by_cases hn : r < 0
   ·go_wp2_with (fail)
    go_ret
    exact ⟨-1, rfl, ⟨by omega, by omega⟩, rfl⟩
   ·by_cases hg : r < x0
    ·go_wp2_with (fail)
     go_ret
     exact ⟨-1, rfl, ⟨by omega, by omega⟩, rfl⟩
    ·have hw2 : IntKind.i64.wrap (r - x0) = r - x0 := IntWalk.i64_in _ (by omega)
     go_wp2_with (fail)
     go_roundg 0
     case measure => omega
     case rel => exact ⟨r - x0, 1, rfl, by simp, by omega, by omega, by omega, rfl⟩
  ·have h2' : ¬ (i : Int) < 1 := by omega
   go_wp2_with (fail)
   go_ret
   exact ⟨r, rfl, ⟨by omega, by omega⟩, rfl⟩
def AnyB (w : World) (e : Ending) (w' : World) : Prop := (∃ b : Bool, e = .returned (.bool b)) ∧ Below w.heap.size w w'
theorem small16_any (A : Option Addr) (n c : Nat) (l : List LogE) (w : World) (hv : Sl w 4 (.slice A n c) n (l.flatMap entCs)) (hl : l.length = n) (hml : n ≤ 9223372036854775807) :
  Calls Tryz.prog 7 #[.slice A n c] w (AnyB w) := by
 subst hl
 have HV := Hdz hv
 clear hv
 go_enter Tryz.func7, Tryz.ntmps7
 go_wp2_with (fail)
 go_loopg [3, 4] l.length (fun gk s3 s4 wr => ∃ (r : Int) (i : Nat), s3 = .int .i64 r ∧ s4 = .int .i64 (i : Int) ∧ i + gk = l.length ∧ -1 ≤ r ∧ r ≤ 60000 ∧ Hid (Below w.heap.size w wr))
 case atStart => exact ⟨12000, 0, rfl, rfl, by omega, by omega, by omega, Below.refl _ _⟩
 case round =>
  obtain ⟨r, i, rfl, rfl, hi, hr1, hr2, hbw⟩ := hrel
  obtain ⟨wo, rfl⟩ : ∃ wo, wo = wr := ⟨_, rfl⟩
  have hcs : ¬ ((i : Int) < (l.length : Int)) ∨ ((i : Int) < (l.length : Int) ∧ ¬ (i : Int) < 600) ∨ ((i : Int) < (l.length : Int) ∧ (i : Int) < 600 ∧ ¬ r ≥ 0) ∨ ((i : Int) < (l.length : Int) ∧ (i : Int) < 600 ∧ r ≥ 0) := by omega
  have hend : ((l.length : Int) ≤ 420 ∧ r ≥ 0) ∨ ((l.length : Int) ≤ 420 ∧ ¬ r ≥ 0) ∨ ¬ (l.length : Int) ≤ 420 := by omega
  rcases hcs with d0 | ⟨d0, d1⟩ | ⟨d0, d1, d2⟩ | ⟨d0, d1, d2⟩
  case inr.inr.inr =>
   have h0 : (0 : Int) ≤ (i : Int) := by omega
   have h1 : i < l.length := by omega
   have hw1 : IntKind.i64.wrap ((i : Int) + 1) = (i : Int) + 1 := IntWalk.i64_in _ (by omega)
   obtain ⟨_, _, e0, _, _, hcl⟩ := HV.out.below hbw.out
   cases e0
   obtain ⟨blk, off, rfl, hbl, hcell⟩ := hcl (by omega)
   have p1 : (l.flatMap entCs)[i * 4 + 3]? = some (strV l[i].data) := flat_at entCs_len l i 3 h1 (by omega)
   have x1 : wo.cell? ⟨blk, off + i * 4 + 3, none⟩ = _ := hcell _ _ p1
   obtain ⟨dt, hdt⟩ : ∃ d, l[i].data = d := ⟨_, rfl⟩
   rw [hdt] at x1
   have HR : Hid (∀ W g T, Blk W g T #[.int .i64 (dt.length : Int)] → Calls Tryz.prog 28 #[.int .i64 r, .slice (some ⟨g, 0, none⟩) 1 1] W (RoomP1 W)) := fun W g T hb => room_one g T _ r W hb (by omega) ⟨hr1, hr2⟩
   clear hcell hcl p1 hdt hbl hend
   go_wp2_with (fail)
   go_must (refine (HR.out _ _ _ (Blk.new _ _ _)).mono ?_)
   rintro e w1 ⟨r', rfl, ⟨q1, q2⟩, rfl⟩
   go_wp2_with (fail)
   go_roundg (gk - 1)
   case measure => omega
   case rel => exact ⟨r', i + 1, rfl, by simp, by omega, q1, q2, hbw.out.alloc hbw.out.size _⟩
  all_goals
   rcases hend with ⟨g0, g1⟩ | ⟨g0, g1⟩ | g0
   all_goals
    go_wp2_with (fail)
    go_ret
    exact ⟨⟨_, rfl⟩, hbw.out⟩
end Go.Ev
