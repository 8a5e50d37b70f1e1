/-
  DERIVED. GIVEN WITH THE SEED: THE CARDS: each row of YthfdbfbfldmmaaaGreatDoorRows.lean that lists a variable, with what it lists TIED to the program's text (the seventh form; the later family's looks); each row that meets fmt, with fmt's text TOLD by the authors' own Lean function (tested against real Go, not proved from fmt's source: count such statements apart). THE CARD IS WHAT COUNTS. Prove the row's statement (the work); the ties are given (YthfdbfbfldmmaaaGreatDoorTie.lean); close each card by the builder's one call (the guide's Derived/Test/ToyasCard.lean, 'card_holds'). Laid BY PROGRAM, IN A SANDBOX (cutbox-door.mjs). By AI agents, Wed Nov 11 2026. No macro, syntax, notation, axiom, sorry.
-/
import Derived.Test.YthfdbfbfldmmaaaGreatDoorRows
import GoSem.ClaimSeven
namespace Go.Proofs.YthfdbfbfldmmaaaGreatDoor
namespace Rows

/-- THE TIED CARD OF 'arboretumlaw22.SnapTakes'. -/
def snapTakesCard : Claim7 := { stood := { row := snapTakesRow, standIns := [], harness := (true, "7b3a4396a969816585bce5bfb8c3944f57bad8dc926f58131419c2f8c884cb03"), looks := true }, kinds := [], alts := [], laidByText := true, laidKinds := [.data, .pinned], laidTests := true, laidLooks := .later }
def SnapTakesCardSaid : Prop := Claim7.holds Tryz.pinned (.plain (OpenSpec.ofChange snapTakesSpec)) snapTakesCard

/-- THE SECOND FORM's CARD OF 'arboretumlaw22.SnapTakes'. -/
def snapTakesUptoCard : Claim7 := { stood := { row := snapTakesUptoRow, standIns := [], harness := (true, "7b3a4396a969816585bce5bfb8c3944f57bad8dc926f58131419c2f8c884cb03"), looks := true }, kinds := [], alts := [], laidByText := true, laidKinds := [.data, .pinned], laidTests := true, laidLooks := .later }
def SnapTakesUptoCardSaid : Prop := Claim7.holds Tryz.pinned (.plain (OpenSpec.upto snapTakesSpec)) snapTakesUptoCard
end Rows
end Go.Proofs.YthfdbfbfldmmaaaGreatDoor
