/-
  The law arboretumlaw15.ScanNone holds, it has no input: it is evaluated, in the kernel, by an evaluator that is proved sound for every order and every answer of the tape; conditions: the row's own (the listed variables are as the program's text lays them).
-/
import Derived.Test.YtjmneomkkcbleaaGreatDoorEvScanRow
import Derived.Test.YtjmneomkkcbleaaGreatDoorTie
import Derived.Test.YtjmneomkkcbleaaGreatDoorCards
import Derived.ProofKit
import Derived.OpenShut
import Derived.ChangeMaps5
import Derived.LaidMore
import Derived.Lay
import Derived.SevenTiedAt
import Derived.Stop.Joined
namespace Go.Proofs.YtjmneomkkcbleaaGreatDoor
open Go.ChangeShapes Go.WideShapes Go.ChangeAt Go.RowKit
set_option maxHeartbeats 40000000 in
theorem scanNone_holds : Rows.ScanNoneCardSaid :=
  Claim7.holds_tied_plain_at .later [] [.data, .pinned] true (true, "23debfcb84656d1fb7107386086682e878225e0987049066834d0c2c34779c85") true scanNone_row (fun _ h => by cases h) (by as_aux_lemma => kernel_rfl) (fun _ h => by cases h) scanNone_row_tie rfl ⟨rfl, rfl⟩ (by as_aux_lemma => kernel_rfl) rfl
    (fun f fn hf hfn => by
      obtain rfl : f = 3 := Option.some.inj ((show Tryz.prog.funcNamed "arboretum/arboretumlaw15.ScanNone" = some 3 by as_aux_lemma => kernel_rfl).symm.trans hf) |>.symm
      obtain rfl : fn = Tryz.f3 := (Option.some.inj (Tryz.func3.symm.trans hfn)).symm
      exact ⟨by as_aux_lemma => kernel_rfl, fun j t ht => by
        rw [Tryz.params3] at ht
        simp at ht⟩)
    (by as_aux_lemma => kernel_rfl)
#print axioms scanNone_holds
end Go.Proofs.YtjmneomkkcbleaaGreatDoor
