/-
  Texts of this claim.
-/
import Derived.Test.YtmfoiaaehkandaaGreatDoorMBGwDelG
import Derived.Test.YtmfoiaaehkandaaGreatDoorMBGwPutG
import Derived.Test.YtmfoiaaehkandaaGreatDoorMBGwWalkLaw
set_option linter.unusedVariables false
set_option linter.unusedSimpArgs false

