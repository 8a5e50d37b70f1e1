/-
  Texts of this claim.
-/
import Derived.Test.YtjdimpnonjjnaaaGreatDoorMGwDelG
import Derived.Test.YtjdimpnonjjnaaaGreatDoorMGwPutG
import Derived.Test.YtjdimpnonjjnaaaGreatDoorMGwWalkLaw
set_option linter.unusedVariables false
set_option linter.unusedSimpArgs false

