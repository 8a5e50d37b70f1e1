/-
  DERIVED. GIVEN WITH THE SEED: THE CARDS: each row of YtjmneomkkcbleaaGreatDoorRows.lean that lists a variable, with what it lists TIED to the program's text (the seventh form; the later family's looks); each row that meets fmt, with fmt's text TOLD by the authors' own Lean function (tested against real Go, not proved from fmt's source: count such statements apart). THE CARD IS WHAT COUNTS. Prove the row's statement (the work); the ties are given (YtjmneomkkcbleaaGreatDoorTie.lean); close each card by the builder's one call (the guide's Derived/Test/ToyasCard.lean, 'card_holds'). Laid BY PROGRAM, IN A SANDBOX (cutbox-door.mjs). By AI agents, Wed Nov 11 2026. No macro, syntax, notation, axiom, sorry.
-/
import Derived.Test.YtjmneomkkcbleaaGreatDoorRows
import GoSem.ClaimSeven
namespace Go.Proofs.YtjmneomkkcbleaaGreatDoor
namespace Rows

/-- THE TIED CARD OF 'arboretumlaw15.ScanNone'. -/
def scanNoneCard : Claim7 := { stood := { row := scanNoneRow, standIns := [], harness := (true, "23debfcb84656d1fb7107386086682e878225e0987049066834d0c2c34779c85"), looks := true }, kinds := [], alts := [], laidByText := true, laidKinds := [.data, .pinned], laidTests := true, laidLooks := .later }
def ScanNoneCardSaid : Prop := Claim7.holds Tryz.pinned (.plain (OpenSpec.ofChange scanNoneSpec)) scanNoneCard

/-- THE TIED CARD OF 'arboretumlaw11.TreeNone'. -/
def treeNoneCard : Claim7 := { stood := { row := treeNoneRow, standIns := [], harness := (true, "23debfcb84656d1fb7107386086682e878225e0987049066834d0c2c34779c85"), looks := true }, kinds := [], alts := [], laidByText := true, laidKinds := [.data, .pinned], laidTests := true, laidLooks := .later }
def TreeNoneCardSaid : Prop := Claim7.holds Tryz.pinned (.plain (OpenSpec.ofChange treeNoneSpec)) treeNoneCard

/-- THE TIED CARD OF 'arboretumlaw24.SessNone'. -/
def sessNoneCard : Claim7 := { stood := { row := sessNoneRow, standIns := [], harness := (true, "23debfcb84656d1fb7107386086682e878225e0987049066834d0c2c34779c85"), looks := true }, kinds := [], alts := [], laidByText := true, laidKinds := [.data, .pinned], laidTests := true, laidLooks := .later }
def SessNoneCardSaid : Prop := Claim7.holds Tryz.pinned (.plain (OpenSpec.ofChange sessNoneSpec)) sessNoneCard

/-- THE TIED CARD OF 'arboretumlaw19.KeepNone'. -/
def keepNoneCard : Claim7 := { stood := { row := keepNoneRow, standIns := [], harness := (true, "23debfcb84656d1fb7107386086682e878225e0987049066834d0c2c34779c85"), looks := true }, kinds := [], alts := [], laidByText := true, laidKinds := [.data, .pinned], laidTests := true, laidLooks := .later }
def KeepNoneCardSaid : Prop := Claim7.holds Tryz.pinned (.plain (OpenSpec.ofChange keepNoneSpec)) keepNoneCard

/-- THE TIED CARD OF 'arboretumlaw25.KvNone'. -/
def kvNoneCard : Claim7 := { stood := { row := kvNoneRow, standIns := [], harness := (true, "23debfcb84656d1fb7107386086682e878225e0987049066834d0c2c34779c85"), looks := true }, kinds := [], alts := [], laidByText := true, laidKinds := [.data, .pinned], laidTests := true, laidLooks := .later }
def KvNoneCardSaid : Prop := Claim7.holds Tryz.pinned (.plain (OpenSpec.ofChange kvNoneSpec)) kvNoneCard

/-- THE TIED CARD OF 'arboretumlaw14.DbNone'. -/
def dbNoneCard : Claim7 := { stood := { row := dbNoneRow, standIns := [], harness := (true, "23debfcb84656d1fb7107386086682e878225e0987049066834d0c2c34779c85"), looks := true }, kinds := [], alts := [], laidByText := true, laidKinds := [.data, .pinned], laidTests := true, laidLooks := .later }
def DbNoneCardSaid : Prop := Claim7.holds Tryz.pinned (.plain (OpenSpec.ofChange dbNoneSpec)) dbNoneCard

/-- THE TIED CARD OF 'arboretumlaw22.SnapNone'. -/
def snapNoneCard : Claim7 := { stood := { row := snapNoneRow, standIns := [], harness := (true, "23debfcb84656d1fb7107386086682e878225e0987049066834d0c2c34779c85"), looks := true }, kinds := [], alts := [], laidByText := true, laidKinds := [.data, .pinned], laidTests := true, laidLooks := .later }
def SnapNoneCardSaid : Prop := Claim7.holds Tryz.pinned (.plain (OpenSpec.ofChange snapNoneSpec)) snapNoneCard

/-- THE SECOND FORM's CARD OF 'arboretumlaw15.ScanNone'. -/
def scanNoneUptoCard : Claim7 := { stood := { row := scanNoneUptoRow, standIns := [], harness := (true, "23debfcb84656d1fb7107386086682e878225e0987049066834d0c2c34779c85"), looks := true }, kinds := [], alts := [], laidByText := true, laidKinds := [.data, .pinned], laidTests := true, laidLooks := .later }
def ScanNoneUptoCardSaid : Prop := Claim7.holds Tryz.pinned (.plain (OpenSpec.upto scanNoneSpec)) scanNoneUptoCard

/-- THE SECOND FORM's CARD OF 'arboretumlaw11.TreeNone'. -/
def treeNoneUptoCard : Claim7 := { stood := { row := treeNoneUptoRow, standIns := [], harness := (true, "23debfcb84656d1fb7107386086682e878225e0987049066834d0c2c34779c85"), looks := true }, kinds := [], alts := [], laidByText := true, laidKinds := [.data, .pinned], laidTests := true, laidLooks := .later }
def TreeNoneUptoCardSaid : Prop := Claim7.holds Tryz.pinned (.plain (OpenSpec.upto treeNoneSpec)) treeNoneUptoCard

/-- THE SECOND FORM's CARD OF 'arboretumlaw24.SessNone'. -/
def sessNoneUptoCard : Claim7 := { stood := { row := sessNoneUptoRow, standIns := [], harness := (true, "23debfcb84656d1fb7107386086682e878225e0987049066834d0c2c34779c85"), looks := true }, kinds := [], alts := [], laidByText := true, laidKinds := [.data, .pinned], laidTests := true, laidLooks := .later }
def SessNoneUptoCardSaid : Prop := Claim7.holds Tryz.pinned (.plain (OpenSpec.upto sessNoneSpec)) sessNoneUptoCard

/-- THE SECOND FORM's CARD OF 'arboretumlaw19.KeepNone'. -/
def keepNoneUptoCard : Claim7 := { stood := { row := keepNoneUptoRow, standIns := [], harness := (true, "23debfcb84656d1fb7107386086682e878225e0987049066834d0c2c34779c85"), looks := true }, kinds := [], alts := [], laidByText := true, laidKinds := [.data, .pinned], laidTests := true, laidLooks := .later }
def KeepNoneUptoCardSaid : Prop := Claim7.holds Tryz.pinned (.plain (OpenSpec.upto keepNoneSpec)) keepNoneUptoCard

/-- THE SECOND FORM's CARD OF 'arboretumlaw25.KvNone'. -/
def kvNoneUptoCard : Claim7 := { stood := { row := kvNoneUptoRow, standIns := [], harness := (true, "23debfcb84656d1fb7107386086682e878225e0987049066834d0c2c34779c85"), looks := true }, kinds := [], alts := [], laidByText := true, laidKinds := [.data, .pinned], laidTests := true, laidLooks := .later }
def KvNoneUptoCardSaid : Prop := Claim7.holds Tryz.pinned (.plain (OpenSpec.upto kvNoneSpec)) kvNoneUptoCard

/-- THE SECOND FORM's CARD OF 'arboretumlaw14.DbNone'. -/
def dbNoneUptoCard : Claim7 := { stood := { row := dbNoneUptoRow, standIns := [], harness := (true, "23debfcb84656d1fb7107386086682e878225e0987049066834d0c2c34779c85"), looks := true }, kinds := [], alts := [], laidByText := true, laidKinds := [.data, .pinned], laidTests := true, laidLooks := .later }
def DbNoneUptoCardSaid : Prop := Claim7.holds Tryz.pinned (.plain (OpenSpec.upto dbNoneSpec)) dbNoneUptoCard

/-- THE SECOND FORM's CARD OF 'arboretumlaw22.SnapNone'. -/
def snapNoneUptoCard : Claim7 := { stood := { row := snapNoneUptoRow, standIns := [], harness := (true, "23debfcb84656d1fb7107386086682e878225e0987049066834d0c2c34779c85"), looks := true }, kinds := [], alts := [], laidByText := true, laidKinds := [.data, .pinned], laidTests := true, laidLooks := .later }
def SnapNoneUptoCardSaid : Prop := Claim7.holds Tryz.pinned (.plain (OpenSpec.upto snapNoneSpec)) snapNoneUptoCard
end Rows
end Go.Proofs.YtjmneomkkcbleaaGreatDoor
