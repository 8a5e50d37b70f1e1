/-
  The runs for the law arboretumlaw13.BuckNone: true, whatever texts it is handed.
-/
import Derived.Test.YtklcfcjfigpbgaaGreatDoorEvPrimOk
namespace Go.Proofs.YtklcfcjfigpbgaaGreatDoor
theorem alive13 : Ev.okB ((Ev.fns (Ev.prims 147 []) 100000).call 37 [] ⟨.nil, 0⟩) = true := by kernel_rfl
theorem alone13 : Ev.AloneOk [37] := Ev.AloneOk.cons Ev.aloneNil Ev.aloneNil alive13

theorem run_buckNone (name key : List UInt8) : Ev.okB ((Ev.fns (Ev.prims 147 [37]) 100000).call 6 [.str name, .str key] ⟨.nil, 0⟩) = true := by kernel_rfl

theorem call_buckNone (name key : ByteArray) (w : World) : Calls Tryz.prog 6 #[.string name, .string key] w fun e w' => e = .returned (.bool true) ∧ Ev.Kept w w' := by
  have h := Ev.closed_call (Ev.soundAll alone13 100000) (run_buckNone name.data.toList key.data.toList) (by simp [Ev.OnL, Ev.On]) w
  rw [Ev.pp_eq] at h
  have := callsIn_wide.1 h
  simpa [Ev.concL, Ev.conc] using this
end Go.Proofs.YtklcfcjfigpbgaaGreatDoor
