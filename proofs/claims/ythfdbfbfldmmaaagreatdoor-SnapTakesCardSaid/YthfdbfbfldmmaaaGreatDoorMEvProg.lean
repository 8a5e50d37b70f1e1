/-
  The program that is evaluated.
-/
import Derived.Test.YthfdbfbfldmmaaaGreatDoorProg
set_option linter.unusedVariables false
set_option linter.unusedSimpArgs false
set_option linter.unusedVariables false
set_option linter.unusedSimpArgs false
namespace Go.Ev
@[irreducible] noncomputable def PP : Program := Go.Proofs.Tryz.prog
end Go.Ev
