/-
  At a program without iterators over maps' keys: nothing is asked of them.
-/
import Derived.Test.YtoihhmemmlfnaaaGreatDoorEvKeys
import Derived.Test.YtoihhmemmlfnaaaGreatDoorEvFacts
namespace Go.Ev
open Go.Proofs Go.RowKit

def K0 : Ids := ⟨74, 171, 145, 178, [], 3, true, 46, 53⟩

theorem keysLaw : KeysLaw K0 where
  sorted := fun _ h => by simp [K0] at h
  collect := fun _ h => by simp [K0] at h
end Go.Ev
