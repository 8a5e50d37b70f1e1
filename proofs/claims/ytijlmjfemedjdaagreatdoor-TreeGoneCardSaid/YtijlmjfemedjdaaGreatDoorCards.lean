/-
  DERIVED. GIVEN WITH THE SEED: THE CARDS: each row of YtijlmjfemedjdaaGreatDoorRows.lean that lists a variable, with what it lists TIED to the program's text (the seventh form; the later family's looks); each row that meets fmt, with fmt's text TOLD by the authors' own Lean function (tested against real Go, not proved from fmt's source: count such statements apart). THE CARD IS WHAT COUNTS. Prove the row's statement (the work); the ties are given (YtijlmjfemedjdaaGreatDoorTie.lean); close each card by the builder's one call (the guide's Derived/Test/ToyasCard.lean, 'card_holds'). Laid BY PROGRAM, IN A SANDBOX (cutbox-door.mjs). By AI agents, Wed Nov 11 2026. No macro, syntax, notation, axiom, sorry.
-/
import Derived.Test.YtijlmjfemedjdaaGreatDoorRows
import GoSem.ClaimSeven
namespace Go.Proofs.YtijlmjfemedjdaaGreatDoor
namespace Rows

/-- THE TIED CARD OF 'arboretumlaw11.TreeHeight'. -/
def treeHeightCard : Claim7 := { stood := { row := treeHeightRow, standIns := [], harness := (true, "771d84a5f72de596803082e9cbc3e013ac064352cf004b86303fdb988e65aead"), looks := true }, kinds := [], alts := [], laidByText := true, laidKinds := [.data, .pinned], laidTests := true, laidLooks := .later }
def TreeHeightCardSaid : Prop := Claim7.holds Tryz.pinned (.plain (OpenSpec.ofChange treeHeightSpec)) treeHeightCard

/-- THE TIED CARD OF 'arboretumlaw11.TreeGone'. -/
def treeGoneCard : Claim7 := { stood := { row := treeGoneRow, standIns := [], harness := (true, "771d84a5f72de596803082e9cbc3e013ac064352cf004b86303fdb988e65aead"), looks := true }, kinds := [], alts := [], laidByText := true, laidKinds := [.data, .pinned], laidTests := true, laidLooks := .later }
def TreeGoneCardSaid : Prop := Claim7.holds Tryz.pinned (.plain (OpenSpec.ofChange treeGoneSpec)) treeGoneCard

/-- THE TIED CARD OF 'arboretumlaw11.TreeKeeps'. -/
def treeKeepsCard : Claim7 := { stood := { row := treeKeepsRow, standIns := [], harness := (true, "771d84a5f72de596803082e9cbc3e013ac064352cf004b86303fdb988e65aead"), looks := true }, kinds := [], alts := [], laidByText := true, laidKinds := [.data, .pinned], laidTests := true, laidLooks := .later }
def TreeKeepsCardSaid : Prop := Claim7.holds Tryz.pinned (.plain (OpenSpec.ofChange treeKeepsSpec)) treeKeepsCard

/-- THE TIED CARD OF 'arboretumlaw11.TreeFull'. -/
def treeFullCard : Claim7 := { stood := { row := treeFullRow, standIns := [], harness := (true, "771d84a5f72de596803082e9cbc3e013ac064352cf004b86303fdb988e65aead"), looks := true }, kinds := [], alts := [], laidByText := true, laidKinds := [.data, .pinned], laidTests := true, laidLooks := .later }
def TreeFullCardSaid : Prop := Claim7.holds Tryz.pinned (.plain (OpenSpec.ofChange treeFullSpec)) treeFullCard

/-- THE TIED CARD OF 'arboretumlaw11.TreePlays'. -/
def treePlaysCard : Claim7 := { stood := { row := treePlaysRow, standIns := [], harness := (true, "771d84a5f72de596803082e9cbc3e013ac064352cf004b86303fdb988e65aead"), looks := true }, kinds := [], alts := [], laidByText := true, laidKinds := [.data, .pinned], laidTests := true, laidLooks := .later }
def TreePlaysCardSaid : Prop := Claim7.holds Tryz.pinned (.plain (OpenSpec.ofChange treePlaysSpec)) treePlaysCard

/-- THE SECOND FORM's CARD OF 'arboretumlaw11.TreeHeight'. -/
def treeHeightUptoCard : Claim7 := { stood := { row := treeHeightUptoRow, standIns := [], harness := (true, "771d84a5f72de596803082e9cbc3e013ac064352cf004b86303fdb988e65aead"), looks := true }, kinds := [], alts := [], laidByText := true, laidKinds := [.data, .pinned], laidTests := true, laidLooks := .later }
def TreeHeightUptoCardSaid : Prop := Claim7.holds Tryz.pinned (.plain (OpenSpec.upto treeHeightSpec)) treeHeightUptoCard

/-- THE SECOND FORM's CARD OF 'arboretumlaw11.TreeGone'. -/
def treeGoneUptoCard : Claim7 := { stood := { row := treeGoneUptoRow, standIns := [], harness := (true, "771d84a5f72de596803082e9cbc3e013ac064352cf004b86303fdb988e65aead"), looks := true }, kinds := [], alts := [], laidByText := true, laidKinds := [.data, .pinned], laidTests := true, laidLooks := .later }
def TreeGoneUptoCardSaid : Prop := Claim7.holds Tryz.pinned (.plain (OpenSpec.upto treeGoneSpec)) treeGoneUptoCard

/-- THE SECOND FORM's CARD OF 'arboretumlaw11.TreeKeeps'. -/
def treeKeepsUptoCard : Claim7 := { stood := { row := treeKeepsUptoRow, standIns := [], harness := (true, "771d84a5f72de596803082e9cbc3e013ac064352cf004b86303fdb988e65aead"), looks := true }, kinds := [], alts := [], laidByText := true, laidKinds := [.data, .pinned], laidTests := true, laidLooks := .later }
def TreeKeepsUptoCardSaid : Prop := Claim7.holds Tryz.pinned (.plain (OpenSpec.upto treeKeepsSpec)) treeKeepsUptoCard

/-- THE SECOND FORM's CARD OF 'arboretumlaw11.TreeFull'. -/
def treeFullUptoCard : Claim7 := { stood := { row := treeFullUptoRow, standIns := [], harness := (true, "771d84a5f72de596803082e9cbc3e013ac064352cf004b86303fdb988e65aead"), looks := true }, kinds := [], alts := [], laidByText := true, laidKinds := [.data, .pinned], laidTests := true, laidLooks := .later }
def TreeFullUptoCardSaid : Prop := Claim7.holds Tryz.pinned (.plain (OpenSpec.upto treeFullSpec)) treeFullUptoCard

/-- THE SECOND FORM's CARD OF 'arboretumlaw11.TreePlays'. -/
def treePlaysUptoCard : Claim7 := { stood := { row := treePlaysUptoRow, standIns := [], harness := (true, "771d84a5f72de596803082e9cbc3e013ac064352cf004b86303fdb988e65aead"), looks := true }, kinds := [], alts := [], laidByText := true, laidKinds := [.data, .pinned], laidTests := true, laidLooks := .later }
def TreePlaysUptoCardSaid : Prop := Claim7.holds Tryz.pinned (.plain (OpenSpec.upto treePlaysSpec)) treePlaysUptoCard
end Rows
end Go.Proofs.YtijlmjfemedjdaaGreatDoor
