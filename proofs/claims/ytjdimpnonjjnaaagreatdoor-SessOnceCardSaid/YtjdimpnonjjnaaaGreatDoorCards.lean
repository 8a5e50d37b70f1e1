/-
  DERIVED. GIVEN WITH THE SEED: THE CARDS: each row of YtjdimpnonjjnaaaGreatDoorRows.lean that lists a variable, with what it lists TIED to the program's text (the seventh form; the later family's looks); each row that meets fmt, with fmt's text TOLD by the authors' own Lean function (tested against real Go, not proved from fmt's source: count such statements apart). THE CARD IS WHAT COUNTS. Prove the row's statement (the work); the ties are given (YtjdimpnonjjnaaaGreatDoorTie.lean); close each card by the builder's one call (the guide's Derived/Test/ToyasCard.lean, 'card_holds'). Laid BY PROGRAM, IN A SANDBOX (cutbox-door.mjs). By AI agents, Wed Nov 11 2026. No macro, syntax, notation, axiom, sorry.
-/
import Derived.Test.YtjdimpnonjjnaaaGreatDoorRows
import GoSem.ClaimSeven
namespace Go.Proofs.YtjdimpnonjjnaaaGreatDoor
namespace Rows

/-- THE TIED CARD OF 'arboretumlaw24.SessOnce'. -/
def sessOnceCard : Claim7 := { stood := { row := sessOnceRow, standIns := [], harness := (true, "a0432fd5101cca401364abb44e0468ba844c1872e990c273f22eab027b4ac3a9"), looks := true }, kinds := [], alts := [], laidByText := true, laidKinds := [.data, .pinned], laidTests := true, laidLooks := .later }
def SessOnceCardSaid : Prop := Claim7.holds Tryz.pinned (.plain (OpenSpec.ofChange sessOnceSpec)) sessOnceCard

/-- THE TIED CARD OF 'arboretumlaw24.SessEnds'. -/
def sessEndsCard : Claim7 := { stood := { row := sessEndsRow, standIns := [], harness := (true, "a0432fd5101cca401364abb44e0468ba844c1872e990c273f22eab027b4ac3a9"), looks := true }, kinds := [], alts := [], laidByText := true, laidKinds := [.data, .pinned], laidTests := true, laidLooks := .later }
def SessEndsCardSaid : Prop := Claim7.holds Tryz.pinned (.plain (OpenSpec.ofChange sessEndsSpec)) sessEndsCard

/-- THE SECOND FORM's CARD OF 'arboretumlaw24.SessOnce'. -/
def sessOnceUptoCard : Claim7 := { stood := { row := sessOnceUptoRow, standIns := [], harness := (true, "a0432fd5101cca401364abb44e0468ba844c1872e990c273f22eab027b4ac3a9"), looks := true }, kinds := [], alts := [], laidByText := true, laidKinds := [.data, .pinned], laidTests := true, laidLooks := .later }
def SessOnceUptoCardSaid : Prop := Claim7.holds Tryz.pinned (.plain (OpenSpec.upto sessOnceSpec)) sessOnceUptoCard

/-- THE SECOND FORM's CARD OF 'arboretumlaw24.SessEnds'. -/
def sessEndsUptoCard : Claim7 := { stood := { row := sessEndsUptoRow, standIns := [], harness := (true, "a0432fd5101cca401364abb44e0468ba844c1872e990c273f22eab027b4ac3a9"), looks := true }, kinds := [], alts := [], laidByText := true, laidKinds := [.data, .pinned], laidTests := true, laidLooks := .later }
def SessEndsUptoCardSaid : Prop := Claim7.holds Tryz.pinned (.plain (OpenSpec.upto sessEndsSpec)) sessEndsUptoCard
end Rows
end Go.Proofs.YtjdimpnonjjnaaaGreatDoor
