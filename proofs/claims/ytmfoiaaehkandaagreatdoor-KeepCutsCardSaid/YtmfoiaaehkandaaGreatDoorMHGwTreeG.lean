/-
  Texts of this claim.
-/
import Derived.Test.YtmfoiaaehkandaaGreatDoorMHGwDelG
import Derived.Test.YtmfoiaaehkandaaGreatDoorMHGwWalkLaw
set_option linter.unusedVariables false
set_option linter.unusedSimpArgs false

