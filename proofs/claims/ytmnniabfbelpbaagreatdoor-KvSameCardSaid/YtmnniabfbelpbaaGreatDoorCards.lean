/-
  DERIVED. GIVEN WITH THE SEED: THE CARDS: each row of YtmnniabfbelpbaaGreatDoorRows.lean that lists a variable, with what it lists TIED to the program's text (the seventh form; the later family's looks); each row that meets fmt, with fmt's text TOLD by the authors' own Lean function (tested against real Go, not proved from fmt's source: count such statements apart). THE CARD IS WHAT COUNTS. Prove the row's statement (the work); the ties are given (YtmnniabfbelpbaaGreatDoorTie.lean); close each card by the builder's one call (the guide's Derived/Test/ToyasCard.lean, 'card_holds'). Laid BY PROGRAM, IN A SANDBOX (cutbox-door.mjs). By AI agents, Wed Nov 11 2026. No macro, syntax, notation, axiom, sorry.
-/
import Derived.Test.YtmnniabfbelpbaaGreatDoorRows
import GoSem.ClaimSeven
namespace Go.Proofs.YtmnniabfbelpbaaGreatDoor
namespace Rows

/-- THE TIED CARD OF 'arboretumlaw25.KvSame'. -/
def kvSameCard : Claim7 := { stood := { row := kvSameRow, standIns := [], harness := (true, "00bae5fdb1bd8957596b29331fe82d4053fd64e08923aa35f759d8d70aa7d9eb"), looks := true }, kinds := [], alts := [], laidByText := true, laidKinds := [.data, .pinned], laidTests := true, laidLooks := .later }
def KvSameCardSaid : Prop := Claim7.holds Tryz.pinned (.plain (OpenSpec.ofChange kvSameSpec)) kvSameCard

/-- THE TIED CARD OF 'arboretumlaw25.KvSwaps'. -/
def kvSwapsCard : Claim7 := { stood := { row := kvSwapsRow, standIns := [], harness := (true, "00bae5fdb1bd8957596b29331fe82d4053fd64e08923aa35f759d8d70aa7d9eb"), looks := true }, kinds := [], alts := [], laidByText := true, laidKinds := [.data, .pinned], laidTests := true, laidLooks := .later }
def KvSwapsCardSaid : Prop := Claim7.holds Tryz.pinned (.plain (OpenSpec.ofChange kvSwapsSpec)) kvSwapsCard

/-- THE TIED CARD OF 'arboretumlaw25.KvGets'. -/
def kvGetsCard : Claim7 := { stood := { row := kvGetsRow, standIns := [], harness := (true, "00bae5fdb1bd8957596b29331fe82d4053fd64e08923aa35f759d8d70aa7d9eb"), looks := true }, kinds := [], alts := [], laidByText := true, laidKinds := [.data, .pinned], laidTests := true, laidLooks := .later }
def KvGetsCardSaid : Prop := Claim7.holds Tryz.pinned (.plain (OpenSpec.ofChange kvGetsSpec)) kvGetsCard

/-- THE SECOND FORM's CARD OF 'arboretumlaw25.KvSame'. -/
def kvSameUptoCard : Claim7 := { stood := { row := kvSameUptoRow, standIns := [], harness := (true, "00bae5fdb1bd8957596b29331fe82d4053fd64e08923aa35f759d8d70aa7d9eb"), looks := true }, kinds := [], alts := [], laidByText := true, laidKinds := [.data, .pinned], laidTests := true, laidLooks := .later }
def KvSameUptoCardSaid : Prop := Claim7.holds Tryz.pinned (.plain (OpenSpec.upto kvSameSpec)) kvSameUptoCard

/-- THE SECOND FORM's CARD OF 'arboretumlaw25.KvSwaps'. -/
def kvSwapsUptoCard : Claim7 := { stood := { row := kvSwapsUptoRow, standIns := [], harness := (true, "00bae5fdb1bd8957596b29331fe82d4053fd64e08923aa35f759d8d70aa7d9eb"), looks := true }, kinds := [], alts := [], laidByText := true, laidKinds := [.data, .pinned], laidTests := true, laidLooks := .later }
def KvSwapsUptoCardSaid : Prop := Claim7.holds Tryz.pinned (.plain (OpenSpec.upto kvSwapsSpec)) kvSwapsUptoCard

/-- THE SECOND FORM's CARD OF 'arboretumlaw25.KvGets'. -/
def kvGetsUptoCard : Claim7 := { stood := { row := kvGetsUptoRow, standIns := [], harness := (true, "00bae5fdb1bd8957596b29331fe82d4053fd64e08923aa35f759d8d70aa7d9eb"), looks := true }, kinds := [], alts := [], laidByText := true, laidKinds := [.data, .pinned], laidTests := true, laidLooks := .later }
def KvGetsUptoCardSaid : Prop := Claim7.holds Tryz.pinned (.plain (OpenSpec.upto kvGetsSpec)) kvGetsUptoCard
end Rows
end Go.Proofs.YtmnniabfbelpbaaGreatDoor
