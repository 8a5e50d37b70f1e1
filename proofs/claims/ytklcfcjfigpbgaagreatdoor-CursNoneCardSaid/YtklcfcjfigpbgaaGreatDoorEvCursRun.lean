/-
  The runs for the law arboretumlaw12.CursNone: true, whatever text it is handed.
-/
import Derived.Test.YtklcfcjfigpbgaaGreatDoorEvPrimOk
namespace Go.Proofs.YtklcfcjfigpbgaaGreatDoor
theorem alive12 : Ev.okB ((Ev.fns (Ev.prims 147 []) 100000).call 17 [] ⟨.nil, 0⟩) = true := by kernel_rfl
theorem alone12 : Ev.AloneOk [17] := Ev.AloneOk.cons Ev.aloneNil Ev.aloneNil alive12

theorem run_cursNone (key : List UInt8) : Ev.okB ((Ev.fns (Ev.prims 147 [17]) 100000).call 3 [.str key] ⟨.nil, 0⟩) = true := by kernel_rfl

theorem call_cursNone (key : ByteArray) (w : World) : Calls Tryz.prog 3 #[.string key] w fun e w' => e = .returned (.bool true) ∧ Ev.Kept w w' := by
  have h := Ev.closed_call (Ev.soundAll alone12 100000) (run_cursNone key.data.toList) (by simp [Ev.OnL, Ev.On]) w
  rw [Ev.pp_eq] at h
  have := callsIn_wide.1 h
  simpa [Ev.concL, Ev.conc] using this

end Go.Proofs.YtklcfcjfigpbgaaGreatDoor
