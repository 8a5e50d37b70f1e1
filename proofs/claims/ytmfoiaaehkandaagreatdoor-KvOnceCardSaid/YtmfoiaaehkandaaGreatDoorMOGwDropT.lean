/-
  Texts of this claim.
-/
import Derived.Test.YtmfoiaaehkandaaGreatDoorMOGwTreeG
set_option linter.unusedVariables false
set_option linter.unusedSimpArgs false

