/-
  The runs for the law arboretumlaw14.DbNone: true.
-/
import Derived.Test.YtjmneomkkcbleaaGreatDoorEvDbMemo
namespace Go.Proofs.YtjmneomkkcbleaaGreatDoor
theorem alive14 : Ev.okB ((Ev.fns (Ev.prims Ev.K0 [] msDb) 100000).call 47 [] ⟨.nil, 0⟩) = true := by kernel_rfl
theorem alone14 : Ev.AloneOk [47] := Ev.AloneOk.cons Ev.aloneNil memosDb Ev.aloneNil alive14

theorem run_dbNone : Ev.okB ((Ev.fns (Ev.prims Ev.K0 [47] []) 100000).call 8 [] ⟨.nil, 0⟩) = true := by kernel_rfl

theorem call_dbNone (w : World) : Calls Tryz.prog 8 #[] w fun e w' => e = .returned (.bool true) ∧ Ev.Kept w w' := by
  have h := Ev.closed_call (Ev.soundAll alone14 Ev.memosNil 100000) run_dbNone (by simp [Ev.OnL]) w
  rw [Ev.pp_eq] at h
  have := callsIn_wide.1 h
  simpa [Ev.concL] using this
end Go.Proofs.YtjmneomkkcbleaaGreatDoor
