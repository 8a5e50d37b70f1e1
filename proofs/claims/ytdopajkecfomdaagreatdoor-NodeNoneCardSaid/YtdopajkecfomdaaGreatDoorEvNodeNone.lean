/-
  The law arboretumlaw28.NodeNone holds, whatever packet it is handed: its text is walked over what it calls; what it calls is evaluated, in the kernel, by an evaluator that is proved sound for every order and every answer of the tape; conditions: the row's own (the listed variables are as the program's text lays them).
-/
import Derived.Test.YtdopajkecfomdaaGreatDoorEvNodeRow
import Derived.Test.YtdopajkecfomdaaGreatDoorTie
import Derived.Test.YtdopajkecfomdaaGreatDoorCards
import Derived.ProofKit
import Derived.OpenShut
import Derived.ChangeMaps5
import Derived.LaidMore
import Derived.Lay
import Derived.SevenTiedAt
import Derived.Stop.Joined
namespace Go.Proofs.YtdopajkecfomdaaGreatDoor
open Go.ChangeShapes Go.WideShapes Go.ChangeAt Go.RowKit
set_option maxHeartbeats 40000000 in
theorem nodeNone_goes : Tryz.prog.goes 4 = false := by
  unfold Program.goes
  rw [nodeNone_closure, Bool.or_eq_false_iff]
  refine ⟨by as_aux_lemma => kernel_rfl, ?_⟩
  rw [Bool.and_eq_false_iff]
  exact .inr (by as_aux_lemma => kernel_rfl)

theorem goesBy_false {P : Program} {c : OpenClaim} {f : FuncId} (h : P.funcNamed c.func = some f) (hs : c.start = .entering) (hg : P.goes f = false) : false = c.goesBy P := by
  unfold OpenClaim.goesBy Program.goesAt Program.goesFrom
  rw [h, hs]
  simp [hg]

set_option maxHeartbeats 40000000 in
theorem nodeNone_holds : Rows.NodeNoneCardSaid :=
  Claim7.holds_tied_plain_at .later [] [.data, .pinned] true (true, "76d0276282b947da89c8a288ccff7f5a86381d8efd574294618fbc0204393c46") true nodeNone_row (fun _ h => by cases h) (by as_aux_lemma => kernel_rfl) (fun _ h => by cases h) nodeNone_row_tie rfl ⟨rfl, rfl⟩ (by as_aux_lemma => kernel_rfl) rfl
    (fun f fn hf hfn => by
      obtain rfl : f = 4 := Option.some.inj ((show Tryz.prog.funcNamed "arboretum/arboretumlaw28.NodeNone" = some 4 by as_aux_lemma => kernel_rfl).symm.trans hf) |>.symm
      obtain rfl : fn = Tryz.f4 := (Option.some.inj (Tryz.func4.symm.trans hfn)).symm
      exact ⟨by as_aux_lemma => kernel_rfl, fun j t ht => by
        rw [Tryz.params4] at ht
        have hm : t ∈ [45] := by simpa using Array.mem_of_getElem? ht
        have hall : ([45].all fun u => !Tryz.prog.wantsStandIn u) = true := by as_aux_lemma => kernel_rfl
        exact (show Tryz.prog.wantsStandIn t = false by simpa using List.all_eq_true.1 hall t hm)⟩)
    (goesBy_false (by as_aux_lemma => kernel_rfl) rfl nodeNone_goes)
#print axioms nodeNone_holds
end Go.Proofs.YtdopajkecfomdaaGreatDoor
