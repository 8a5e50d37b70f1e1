/-
  DERIVED. GIVEN WITH THE SEED: THE CARDS: each row of YtklcfcjfigpbgaaGreatDoorRows.lean that lists a variable, with what it lists TIED to the program's text (the seventh form; the later family's looks); each row that meets fmt, with fmt's text TOLD by the authors' own Lean function (tested against real Go, not proved from fmt's source: count such statements apart). THE CARD IS WHAT COUNTS. Prove the row's statement (the work); the ties are given (YtklcfcjfigpbgaaGreatDoorTie.lean); close each card by the builder's one call (the guide's Derived/Test/ToyasCard.lean, 'card_holds'). Laid BY PROGRAM, IN A SANDBOX (cutbox-door.mjs). By AI agents, Wed Nov 11 2026. No macro, syntax, notation, axiom, sorry.
-/
import Derived.Test.YtklcfcjfigpbgaaGreatDoorRows
import GoSem.ClaimSeven
namespace Go.Proofs.YtklcfcjfigpbgaaGreatDoor
namespace Rows

/-- THE TIED CARD OF 'arboretumlaw12.CursNone'. -/
def cursNoneCard : Claim7 := { stood := { row := cursNoneRow, standIns := [], harness := (true, "98f50601f78ec70ab5c4995ec3527772a8a91d1d1403ffc9eb11b8fb8abdda98"), looks := true }, kinds := [], alts := [], laidByText := true, laidKinds := [.data, .pinned], laidTests := true, laidLooks := .later }
def CursNoneCardSaid : Prop := Claim7.holds Tryz.pinned (.plain (OpenSpec.ofChange cursNoneSpec)) cursNoneCard

/-- THE TIED CARD OF 'arboretumlaw15.ScanNone'. -/
def scanNoneCard : Claim7 := { stood := { row := scanNoneRow, standIns := [], harness := (true, "98f50601f78ec70ab5c4995ec3527772a8a91d1d1403ffc9eb11b8fb8abdda98"), looks := true }, kinds := [], alts := [], laidByText := true, laidKinds := [.data, .pinned], laidTests := true, laidLooks := .later }
def ScanNoneCardSaid : Prop := Claim7.holds Tryz.pinned (.plain (OpenSpec.ofChange scanNoneSpec)) scanNoneCard

/-- THE TIED CARD OF 'arboretumlaw11.TreeNone'. -/
def treeNoneCard : Claim7 := { stood := { row := treeNoneRow, standIns := [], harness := (true, "98f50601f78ec70ab5c4995ec3527772a8a91d1d1403ffc9eb11b8fb8abdda98"), looks := true }, kinds := [], alts := [], laidByText := true, laidKinds := [.data, .pinned], laidTests := true, laidLooks := .later }
def TreeNoneCardSaid : Prop := Claim7.holds Tryz.pinned (.plain (OpenSpec.ofChange treeNoneSpec)) treeNoneCard

/-- THE TIED CARD OF 'arboretumlaw13.BuckNone'. -/
def buckNoneCard : Claim7 := { stood := { row := buckNoneRow, standIns := [], harness := (true, "98f50601f78ec70ab5c4995ec3527772a8a91d1d1403ffc9eb11b8fb8abdda98"), looks := true }, kinds := [], alts := [], laidByText := true, laidKinds := [.data, .pinned], laidTests := true, laidLooks := .later }
def BuckNoneCardSaid : Prop := Claim7.holds Tryz.pinned (.plain (OpenSpec.ofChange buckNoneSpec)) buckNoneCard

/-- THE SECOND FORM's CARD OF 'arboretumlaw12.CursNone'. -/
def cursNoneUptoCard : Claim7 := { stood := { row := cursNoneUptoRow, standIns := [], harness := (true, "98f50601f78ec70ab5c4995ec3527772a8a91d1d1403ffc9eb11b8fb8abdda98"), looks := true }, kinds := [], alts := [], laidByText := true, laidKinds := [.data, .pinned], laidTests := true, laidLooks := .later }
def CursNoneUptoCardSaid : Prop := Claim7.holds Tryz.pinned (.plain (OpenSpec.upto cursNoneSpec)) cursNoneUptoCard

/-- THE SECOND FORM's CARD OF 'arboretumlaw15.ScanNone'. -/
def scanNoneUptoCard : Claim7 := { stood := { row := scanNoneUptoRow, standIns := [], harness := (true, "98f50601f78ec70ab5c4995ec3527772a8a91d1d1403ffc9eb11b8fb8abdda98"), looks := true }, kinds := [], alts := [], laidByText := true, laidKinds := [.data, .pinned], laidTests := true, laidLooks := .later }
def ScanNoneUptoCardSaid : Prop := Claim7.holds Tryz.pinned (.plain (OpenSpec.upto scanNoneSpec)) scanNoneUptoCard

/-- THE SECOND FORM's CARD OF 'arboretumlaw11.TreeNone'. -/
def treeNoneUptoCard : Claim7 := { stood := { row := treeNoneUptoRow, standIns := [], harness := (true, "98f50601f78ec70ab5c4995ec3527772a8a91d1d1403ffc9eb11b8fb8abdda98"), looks := true }, kinds := [], alts := [], laidByText := true, laidKinds := [.data, .pinned], laidTests := true, laidLooks := .later }
def TreeNoneUptoCardSaid : Prop := Claim7.holds Tryz.pinned (.plain (OpenSpec.upto treeNoneSpec)) treeNoneUptoCard

/-- THE SECOND FORM's CARD OF 'arboretumlaw13.BuckNone'. -/
def buckNoneUptoCard : Claim7 := { stood := { row := buckNoneUptoRow, standIns := [], harness := (true, "98f50601f78ec70ab5c4995ec3527772a8a91d1d1403ffc9eb11b8fb8abdda98"), looks := true }, kinds := [], alts := [], laidByText := true, laidKinds := [.data, .pinned], laidTests := true, laidLooks := .later }
def BuckNoneUptoCardSaid : Prop := Claim7.holds Tryz.pinned (.plain (OpenSpec.upto buckNoneSpec)) buckNoneUptoCard
end Rows
end Go.Proofs.YtklcfcjfigpbgaaGreatDoor
