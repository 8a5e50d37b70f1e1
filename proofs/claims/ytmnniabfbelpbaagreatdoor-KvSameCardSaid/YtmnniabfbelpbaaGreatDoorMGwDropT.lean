/-
  Texts of this claim.
-/
import Derived.Test.YtmnniabfbelpbaaGreatDoorMGwTreeG
set_option linter.unusedVariables false
set_option linter.unusedSimpArgs false

