/-
  Texts of this claim.
-/
import Derived.Test.YtmnniabfbelpbaaGreatDoorMGwDelG
import Derived.Test.YtmnniabfbelpbaaGreatDoorMGwPutG
import Derived.Test.YtmnniabfbelpbaaGreatDoorMGwWalkLaw
set_option linter.unusedVariables false
set_option linter.unusedSimpArgs false

