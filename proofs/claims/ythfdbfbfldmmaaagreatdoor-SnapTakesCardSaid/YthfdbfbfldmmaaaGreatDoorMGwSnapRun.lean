/-
  The law arboretumlaw22.SnapTakes, whatever it is handed; its last call (alive) is evaluated in the kernel, piece by piece.
-/
import Derived.Test.YthfdbfbfldmmaaaGreatDoorMEvClosed
import Derived.Test.YthfdbfbfldmmaaaGreatDoorMEvSnapMemo
import Derived.Test.YthfdbfbfldmmaaaGreatDoorMGwSnapLaw
import Derived.Test.YthfdbfbfldmmaaaGreatDoorMGwSnapOpen
set_option linter.unusedVariables false
set_option linter.unusedSimpArgs false
set_option linter.unusedVariables false
set_option linter.unusedSimpArgs false
namespace Go.Proofs.YthfdbfbfldmmaaaGreatDoor
open Go.Ev Go.RowKit
theorem alive22 : okB ((fns (prims K0 [] msSnap) 100000).call 4 [] ⟨.nil, 0⟩) = true := by kernel_rfl
theorem call_snapTakes (zero : Bool) (A : Option Addr) (n c : Nat) (xs : List MsgR) (w : World) (h : MsgsAt w (.slice A n c) xs) (hxn : xs.length = n) : Calls Tryz.prog 3 #[.bool zero, .slice A n c] w (TrueB w) :=
  takes_walk (closed_true (soundAll aloneNil memosSnap 100000) alive22) zero A n c xs w h hxn
end Go.Proofs.YthfdbfbfldmmaaaGreatDoor
