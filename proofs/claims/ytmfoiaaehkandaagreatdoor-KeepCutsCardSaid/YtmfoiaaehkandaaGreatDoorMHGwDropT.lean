/-
  Texts of this claim.
-/
import Derived.Test.YtmfoiaaehkandaaGreatDoorMHGwTreeG
set_option linter.unusedVariables false
set_option linter.unusedSimpArgs false

