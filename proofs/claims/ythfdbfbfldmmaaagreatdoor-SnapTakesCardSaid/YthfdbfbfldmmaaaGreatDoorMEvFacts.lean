/-
  Facts of the program.
-/
import Derived.Test.YthfdbfbfldmmaaaGreatDoorMEvDraw7
import Derived.KernelRfl
set_option linter.unusedVariables false
set_option linter.unusedSimpArgs false
set_option linter.unusedVariables false
set_option linter.unusedSimpArgs false
namespace Go.Ev
open Go.Proofs
theorem pp_eq : PP = Tryz.prog := by unfold PP; rfl
theorem mixed : PP.follows .mixedOrders = true := by rw [pp_eq]; kernel_rfl
def nameOk (name : String) (k : Nat) (p : Func × Nat) : Bool := !(p.1.name == name) || Nat.beq p.2 k
theorem all_ng : Tryz.prog.funcs.toList.all (fun fn => !(fn.name == "runtime.NumGoroutine")) = true := by kernel_rfl
theorem all_ne : (Tryz.prog.funcs.toList.zipIdx).all (nameOk "internal/abi.NoEscape" 311) = true := by kernel_rfl
theorem all_mz : (Tryz.prog.funcs.toList.zipIdx).all (nameOk "internal/bytealg.MakeNoZero" 349) = true := by kernel_rfl
theorem nameOk_of {name : String} {k f : Nat} {fn : Func} (h : (Tryz.prog.funcs.toList.zipIdx).all (nameOk name k) = true) (hf : Tryz.prog.funcs[f]? = some fn) (hn : fn.name = name) : f = k := by
  rw [List.all_eq_true] at h
  have hm : (fn, f) ∈ Tryz.prog.funcs.toList.zipIdx := by
    rw [List.mem_zipIdx_iff_getElem?, Array.getElem?_toList]
    exact hf
  have := h _ hm
  simp only [nameOk, hn, beq_self_eq_true, Bool.not_true, Bool.false_or] at this
  exact Nat.eq_of_beq_eq_true this
theorem find311 : Extern.findNext Tryz.f311 = none ∧ Extern.find Tryz.f311 = some Extern.AbiNoEscape.same := ⟨by kernel_rfl, by kernel_rfl⟩
theorem find349 : Extern.findNext Tryz.f349 = none ∧ Extern.find Tryz.f349 = some (Extern.BytealgMakeNoZero.makeNoZero Tryz.f349.params Tryz.f349.resultTypes) ∧ ∃ t, Tryz.f349.resultTypes = #[t] := ⟨by kernel_rfl, by kernel_rfl, Tryz.f349.resultTypes.getD 0 0, by kernel_rfl⟩
theorem facts : Facts := by
  refine ⟨fun f fn hf => ?_, fun f fn hf hb hn => ?_, fun f fn hf hb hn => ?_⟩ <;> rw [pp_eq] at hf
  · have h := all_ng
    rw [List.all_eq_true] at h
    have := h fn (by rw [Array.mem_toList_iff]; exact Array.mem_of_getElem? hf)
    simpa using this
  · have e := nameOk_of all_ne hf hn
    subst e
    rw [Tryz.func311] at hf
    cases hf
    exact find311
  · have e := nameOk_of all_mz hf hn
    subst e
    rw [Tryz.func349] at hf
    cases hf
    exact find349
end Go.Ev
