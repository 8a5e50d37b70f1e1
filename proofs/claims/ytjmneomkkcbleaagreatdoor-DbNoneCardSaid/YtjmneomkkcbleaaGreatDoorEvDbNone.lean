/-
  The law arboretumlaw14.DbNone holds, it has no input: it is evaluated, in the kernel, by an evaluator that is proved sound for every order and every answer of the tape; conditions: the row's own (the listed variables are as the program's text lays them).
-/
import Derived.Test.YtjmneomkkcbleaaGreatDoorEvDbRow
import Derived.Test.YtjmneomkkcbleaaGreatDoorTie
import Derived.Test.YtjmneomkkcbleaaGreatDoorCards
import Derived.ProofKit
import Derived.OpenShut
import Derived.ChangeMaps5
import Derived.LaidMore
import Derived.Lay
import Derived.SevenTiedAt
import Derived.Stop.Joined
namespace Go.Proofs.YtjmneomkkcbleaaGreatDoor
open Go.ChangeShapes Go.WideShapes Go.ChangeAt Go.RowKit
set_option maxHeartbeats 40000000 in
theorem dbNone_holds : Rows.DbNoneCardSaid :=
  Claim7.holds_tied_plain_at .later [] [.data, .pinned] true (true, "23debfcb84656d1fb7107386086682e878225e0987049066834d0c2c34779c85") true dbNone_row (fun _ h => by cases h) (by as_aux_lemma => kernel_rfl) (fun _ h => by cases h) dbNone_row_tie rfl ⟨rfl, rfl⟩ (by as_aux_lemma => kernel_rfl) rfl
    (fun f fn hf hfn => by
      obtain rfl : f = 8 := Option.some.inj ((show Tryz.prog.funcNamed "arboretum/arboretumlaw14.DbNone" = some 8 by as_aux_lemma => kernel_rfl).symm.trans hf) |>.symm
      obtain rfl : fn = Tryz.f8 := (Option.some.inj (Tryz.func8.symm.trans hfn)).symm
      exact ⟨by as_aux_lemma => kernel_rfl, fun j t ht => by
        rw [Tryz.params8] at ht
        simp at ht⟩)
    (by as_aux_lemma => kernel_rfl)
#print axioms dbNone_holds
end Go.Proofs.YtjmneomkkcbleaaGreatDoor
