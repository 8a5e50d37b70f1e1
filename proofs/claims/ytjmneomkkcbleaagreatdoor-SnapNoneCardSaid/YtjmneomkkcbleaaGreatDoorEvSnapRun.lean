/-
  The runs for the law arboretumlaw22.SnapNone.
-/
import Derived.Test.YtjmneomkkcbleaaGreatDoorEvClosed
import Derived.Test.YtjmneomkkcbleaaGreatDoorEvSnapWalk
import Derived.Test.YtjmneomkkcbleaaGreatDoorEvSnapMemo
namespace Go.Proofs.YtjmneomkkcbleaaGreatDoor
open Go.Ev Go.RowKit
theorem alive22 : okB ((fns (prims K0 [] msSnap) 100000).call 55 [] ⟨.nil, 0⟩) = true := by kernel_rfl

theorem snapPiece : valB ((fns (prims K0 [] []) 100000).call 56 [.nilp, .int .i64 0] ⟨.nil, 0⟩) (.tup [.nils, .bool false, .int .i64 1]) = true := by kernel_rfl
theorem snapClose : valB ((fns (prims K0 [] []) 100000).call 57 [.nilp] ⟨.nil, 0⟩) (.tup []) = true := by kernel_rfl
theorem snapAll : valB ((fns (prims K0 [] []) 100000).call 59 [.nilp] ⟨.nil, 0⟩) (.tup [.nils, .int .i64 1]) = true := by kernel_rfl
theorem snapPairs : valB ((fns (prims K0 [] []) 100000).call 60 [.nilp] ⟨.nil, 0⟩) .nils = true := by kernel_rfl
theorem snapInstall : valB ((fns (prims K0 [] []) 100000).call 61 [.nilp, .nils] ⟨.nil, 0⟩) (.int .i64 1) = true := by kernel_rfl
theorem snapSnap : valB ((fns (prims K0 [] []) 100000).call 62 [.nilp] ⟨.nil, 0⟩) (.agg [.int .i64 0, .int .i64 0, .nils]) = true := by kernel_rfl

theorem call_snapNone (c0 c1 c2 c3 c4 c5 c6 c7 c8 c9 c12 : Value) (pe pm pp : Option Addr) (le ce lm cm lp cp : Nat) (w : World) (he : TextsAt w 4 3 pe le) (hp : TextsAt w 2 0 pp lp) (hp1 : TextsAt w 2 1 pp lp) (hle : le ≤ 9223372036854775807) (hlm : lm ≤ 9223372036854775807) (hlp : lp ≤ 9223372036854775807) :
    Calls Tryz.prog 9 #[.agg #[c0, c1, c2, c3, c4, c5, c6, c7, c8, c9, .slice pe le ce, .slice pm lm cm, c12, .slice pp lp cp]] w (TrueB w) :=
  snap_walk (closed_true (soundAll aloneNil memosSnap 100000) alive22)
    (fun W => by simpa [concL, conc] using closed_val (soundAll aloneNil memosNil 100000) snapPiece (by simp [OnL, On]) (by simp [OnL, On]) W)
    (fun W => by simpa [concL, conc] using closed_val (soundAll aloneNil memosNil 100000) snapClose (by simp [OnL, On]) (by simp [OnL, On]) W)
    (fun W => by simpa [concL, conc] using closed_val (soundAll aloneNil memosNil 100000) snapAll (by simp [OnL, On]) (by simp [OnL, On]) W)
    (fun W => by simpa [concL, conc] using closed_val (soundAll aloneNil memosNil 100000) snapPairs (by simp [OnL, On]) (by simp [OnL, On]) W)
    (fun W => by simpa [concL, conc] using closed_val (soundAll aloneNil memosNil 100000) snapInstall (by simp [OnL, On]) (by simp [OnL, On]) W)
    (fun W => by simpa [concL, conc] using closed_val (soundAll aloneNil memosNil 100000) snapSnap (by simp [OnL, On]) (by simp [OnL, On]) W)
    (fun W => by
      have h := (fieldA_of (σ := fun _ => ⟨0, 0⟩) (D := fun _ => False) (show fieldA 69 (.agg [.int .i64 0, .int .i64 0, .nils]) 0 = some (.int .i64 0) by kernel_rfl) (by simp [OnL, On]) W).1
      rw [pp_eq] at h
      simpa [concL, conc] using h)
    c0 c1 c2 c3 c4 c5 c6 c7 c8 c9 c12 pe pm pp le ce lm cm lp cp w he hp hp1 hle hlm hlp
end Go.Proofs.YtjmneomkkcbleaaGreatDoor
