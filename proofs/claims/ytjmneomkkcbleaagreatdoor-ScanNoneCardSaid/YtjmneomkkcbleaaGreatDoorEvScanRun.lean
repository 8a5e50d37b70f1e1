/-
  The runs for the law arboretumlaw15.ScanNone: true.
-/
import Derived.Test.YtjmneomkkcbleaaGreatDoorEvPrimOk
namespace Go.Proofs.YtjmneomkkcbleaaGreatDoor
theorem alive15 : Ev.okB ((Ev.fns (Ev.prims Ev.K0 [] []) 100000).call 14 [] ⟨.nil, 0⟩) = true := by kernel_rfl
theorem alone15 : Ev.AloneOk [14] := Ev.AloneOk.cons Ev.aloneNil Ev.memosNil Ev.aloneNil alive15

theorem run_scanNone : Ev.okB ((Ev.fns (Ev.prims Ev.K0 [14] []) 100000).call 3 [] ⟨.nil, 0⟩) = true := by kernel_rfl

theorem call_scanNone (w : World) : Calls Tryz.prog 3 #[] w fun e w' => e = .returned (.bool true) ∧ Ev.Kept w w' := by
  have h := Ev.closed_call (Ev.soundAll alone15 Ev.memosNil 100000) run_scanNone (by simp [Ev.OnL]) w
  rw [Ev.pp_eq] at h
  have := callsIn_wide.1 h
  simpa [Ev.concL] using this
end Go.Proofs.YtjmneomkkcbleaaGreatDoor
