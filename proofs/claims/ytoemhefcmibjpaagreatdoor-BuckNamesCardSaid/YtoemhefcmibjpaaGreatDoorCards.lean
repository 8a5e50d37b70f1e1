/-
  DERIVED. GIVEN WITH THE SEED: THE CARDS: each row of YtoemhefcmibjpaaGreatDoorRows.lean that lists a variable, with what it lists TIED to the program's text (the seventh form; the later family's looks); each row that meets fmt, with fmt's text TOLD by the authors' own Lean function (tested against real Go, not proved from fmt's source: count such statements apart). THE CARD IS WHAT COUNTS. Prove the row's statement (the work); the ties are given (YtoemhefcmibjpaaGreatDoorTie.lean); close each card by the builder's one call (the guide's Derived/Test/ToyasCard.lean, 'card_holds'). Laid BY PROGRAM, IN A SANDBOX (cutbox-door.mjs). By AI agents, Wed Nov 11 2026. No macro, syntax, notation, axiom, sorry.
-/
import Derived.Test.YtoemhefcmibjpaaGreatDoorRows
import GoSem.ClaimSeven
namespace Go.Proofs.YtoemhefcmibjpaaGreatDoor
namespace Rows

/-- THE TIED CARD OF 'arboretumlaw13.BuckNames'. -/
def buckNamesCard : Claim7 := { stood := { row := buckNamesRow, standIns := [], harness := (true, "7fda9be5cdc0d186c087f08a5434d50f602a53acf4887021fe56f1d3923fa03b"), looks := true }, kinds := [], alts := [], laidByText := true, laidKinds := [.data, .pinned], laidTests := true, laidLooks := .later }
def BuckNamesCardSaid : Prop := Claim7.holds Tryz.pinned (.plain (OpenSpec.ofChange buckNamesSpec)) buckNamesCard

/-- THE SECOND FORM's CARD OF 'arboretumlaw13.BuckNames'. -/
def buckNamesUptoCard : Claim7 := { stood := { row := buckNamesUptoRow, standIns := [], harness := (true, "7fda9be5cdc0d186c087f08a5434d50f602a53acf4887021fe56f1d3923fa03b"), looks := true }, kinds := [], alts := [], laidByText := true, laidKinds := [.data, .pinned], laidTests := true, laidLooks := .later }
def BuckNamesUptoCardSaid : Prop := Claim7.holds Tryz.pinned (.plain (OpenSpec.upto buckNamesSpec)) buckNamesUptoCard
end Rows
end Go.Proofs.YtoemhefcmibjpaaGreatDoor
