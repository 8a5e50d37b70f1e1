/-
  The program that is evaluated.
-/
import Derived.Test.YtdopajkecfomdaaGreatDoorProg
namespace Go.Ev
@[irreducible] noncomputable def PP : Program := Go.Proofs.Tryz.prog
end Go.Ev
