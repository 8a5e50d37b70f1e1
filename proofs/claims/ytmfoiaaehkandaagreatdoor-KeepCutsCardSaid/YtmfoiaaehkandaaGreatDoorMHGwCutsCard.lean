/-
  The law arboretumlaw19.KeepCuts holds, whatever it is handed: its text is walked over the contracts of all that it calls; conditions: the row's own (the listed variables are as the program's text lays them).
-/
import Derived.Test.YtmfoiaaehkandaaGreatDoorMHGwCutsRow
import Derived.ChangeMaps5
import Derived.LaidMore
import Derived.Lay
import Derived.OpenShut
import Derived.ProofKit
import Derived.SevenTiedAt
import Derived.Stop.Joined
import Derived.Test.YtmfoiaaehkandaaGreatDoorCards
import Derived.Test.YtmfoiaaehkandaaGreatDoorTie
set_option linter.unusedVariables false
set_option linter.unusedSimpArgs false
namespace Go.Proofs.YtmfoiaaehkandaaGreatDoor
open Go.ChangeShapes Go.WideShapes Go.ChangeAt Go.RowKit
set_option maxHeartbeats 40000000 in
theorem keepCuts_facts : joinedFacts Tryz.prog 4 Tryz.f4 Rows.keepCutsSpec Rows.keepCutsRow = true := by kernel_rfl
set_option maxHeartbeats 40000000 in
theorem keepCuts_row : Rows.KeepCutsSaid :=
 OpenClaim.holds_of_wide 4 Tryz.f4 rfl rfl rfl rfl rfl rfl rfl ⟨rfl, rfl, rfl, rfl, rfl⟩ rfl rfl rfl rfl rfl (by as_aux_lemma => kernel_rfl) Tryz.func4 keepCuts_facts
  (of_decide_eq_true (by as_aux_lemma => kernel_rfl)) (by unfold Func.isWrapper; first | (rw [if_pos (by decide +kernel)]; kernel_rfl) | (rw [if_neg (by decide +kernel)]; exact ⟨rfl, rfl⟩))
  (fun os started H enc _ => keepCuts_lifted os started H enc)
set_option maxHeartbeats 40000000 in
theorem keepCuts_holds : Rows.KeepCutsCardSaid :=
 Claim7.holds_tied_plain_at .later [] [.data, .pinned] true (true, "7fe17c42c0e49ccfca31a765acb9a0d2e44b8c2aa015a748bce073b15958d515") true keepCuts_row (fun _ h => by cases h) (by as_aux_lemma => kernel_rfl) (fun _ h => by cases h) keepCuts_row_tie rfl ⟨rfl, rfl⟩ (by as_aux_lemma => kernel_rfl) rfl
  (fun f fn hf hfn => by
   obtain rfl : f = 4 := Option.some.inj ((show Tryz.prog.funcNamed "arboretum/arboretumlaw19.KeepCuts" = some 4 by as_aux_lemma => kernel_rfl).symm.trans hf) |>.symm
   obtain rfl : fn = Tryz.f4 := (Option.some.inj (Tryz.func4.symm.trans hfn)).symm
   exact ⟨by as_aux_lemma => kernel_rfl, fun j t ht => by
    rw [Tryz.params4] at ht
    have hm : t ∈ [3, 3, 24] := by simpa using Array.mem_of_getElem? ht
    have hall : ([3, 3, 24].all fun u => !Tryz.prog.wantsStandIn u) = true := by as_aux_lemma => kernel_rfl
    exact (show Tryz.prog.wantsStandIn t = false by simpa using List.all_eq_true.1 hall t hm)⟩)
  (by as_aux_lemma => kernel_rfl)
#print axioms keepCuts_holds
end Go.Proofs.YtmfoiaaehkandaaGreatDoor
