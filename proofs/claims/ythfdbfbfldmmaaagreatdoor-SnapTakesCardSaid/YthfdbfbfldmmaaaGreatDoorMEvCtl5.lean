/-
  The evaluator is sound, given that regions whose order is open are.
-/
import Derived.Test.YthfdbfbfldmmaaaGreatDoorMEvKeys
set_option linter.unusedVariables false
set_option linter.unusedSimpArgs false
set_option linter.unusedVariables false
set_option linter.unusedSimpArgs false
namespace Go.Ev
open Go.RowKit (Below)
theorem sound (hF : Facts) (hDr : DrawOk) {pr : Prims} (hpr : PrimsOk pr) : ∀ k, Sound k (fns pr k) := by
  intro k
  induction k with
  | zero => exact ⟨(fun h => by cases h), (fun h => by cases h), (fun h => by cases h), (fun h => by cases h), (fun h => by cases h), (fun h => by cases h)⟩
  | succ k ih =>
    exact ⟨fun h g ht hr hQ => ops_step hF ih h g ht hr hQ, fun h => draw_step hF ih h, fun h g ht hr => code_step hF hDr ih h g ht hr, fun h g ht hr => loop_step ih h g ht hr,
      fun h g ho => call_step hF ih hpr h g ho, fun h g ho hD => round_step ih h g ho hD⟩
theorem good_frame (w : World) : Good w (fun i => w.heap[i]?) (fun _ => ⟨0, 0⟩) (fun _ => False) ⟨.nil, 0⟩ w :=
  ⟨rfl, rfl, rfl, Nat.le_refl _, by decide, fun _ h => h.elim, (fun b o h => by cases h), (fun b c h => by obtain ⟨o, h, _⟩ := h; cases h), fun _ h => h.elim, fun _ _ h => h, (fun b h => by obtain ⟨o, h, _⟩ := h; cases h)⟩
end Go.Ev
