/-
  Texts of this claim.
-/
import Derived.Test.YtmfoiaaehkandaaGreatDoorMBGwTreeG
set_option linter.unusedVariables false
set_option linter.unusedSimpArgs false

