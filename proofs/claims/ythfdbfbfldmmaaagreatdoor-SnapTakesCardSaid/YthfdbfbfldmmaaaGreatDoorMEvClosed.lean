/-
  Closed calls that come to a value without blocks, in the kit's own words.
-/
import Derived.Test.YthfdbfbfldmmaaaGreatDoorMEvPrimOk
import Derived.Test.YthfdbfbfldmmaaaGreatDoorMGvTake
set_option linter.unusedVariables false
set_option linter.unusedSimpArgs false
set_option linter.unusedVariables false
set_option linter.unusedSimpArgs false
namespace Go.Ev
open Go.Proofs Go.RowKit
theorem Kept.belowK {w w' : World} (h : Kept w w') : Below w.heap.size w w' :=
  ⟨h.os, h.tape, h.output, h.size, fun k hk => by
    have h1 : w.heap[k]? = some w.heap[k] := by simp [hk]
    rw [h1, h.heap _ _ h1]⟩
theorem closed_true {k : Nat} {F : Fns} (hS : Sound k F) {f : FuncId} (h : okB (F.call f [] ⟨.nil, 0⟩) = true) (w : World) : Calls Tryz.prog f #[] w (TrueB w) := by
  rw [← pp_eq]
  refine (callsIn_wide (n := 0)).1 ?_
  have := closed_call hS h (by simp [OnL]) w
  simp only [concL] at this
  exact this.mono fun e w' ⟨h1, h2⟩ => ⟨h1, h2.belowK⟩
end Go.Ev
