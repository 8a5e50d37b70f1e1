/-
  Texts of this claim.
-/
import Derived.Test.YtmfoiaaehkandaaGreatDoorMOGwDelG
import Derived.Test.YtmfoiaaehkandaaGreatDoorMOGwPutG
import Derived.Test.YtmfoiaaehkandaaGreatDoorMOGwRange
set_option linter.unusedVariables false
set_option linter.unusedSimpArgs false

