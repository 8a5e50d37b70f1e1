/-
  DERIVED. GIVEN WITH THE SEED: THE CARDS: each row of YtgfmhppkmogdhaaGreatDoorRows.lean that lists a variable, with what it lists TIED to the program's text (the seventh form; the later family's looks); each row that meets fmt, with fmt's text TOLD by the authors' own Lean function (tested against real Go, not proved from fmt's source: count such statements apart). THE CARD IS WHAT COUNTS. Prove the row's statement (the work); the ties are given (YtgfmhppkmogdhaaGreatDoorTie.lean); close each card by the builder's one call (the guide's Derived/Test/ToyasCard.lean, 'card_holds'). Laid BY PROGRAM, IN A SANDBOX (cutbox-door.mjs). By AI agents, Wed Nov 11 2026. No macro, syntax, notation, axiom, sorry.
-/
import Derived.Test.YtgfmhppkmogdhaaGreatDoorRows
import GoSem.ClaimSeven
namespace Go.Proofs.YtgfmhppkmogdhaaGreatDoor
namespace Rows

/-- THE TIED CARD OF 'arboretumlaw12.CursRanges'. -/
def cursRangesCard : Claim7 := { stood := { row := cursRangesRow, standIns := [], harness := (true, "a33b2f475c1f761503b948178bd5576aa5a86259ebb8432500d7311015f6b41b"), looks := true }, kinds := [], alts := [], laidByText := true, laidKinds := [.data, .pinned], laidTests := true, laidLooks := .later }
def CursRangesCardSaid : Prop := Claim7.holds Tryz.pinned (.plain (OpenSpec.ofChange cursRangesSpec)) cursRangesCard

/-- THE TIED CARD OF 'arboretumlaw12.CursPlays'. -/
def cursPlaysCard : Claim7 := { stood := { row := cursPlaysRow, standIns := [], harness := (true, "a33b2f475c1f761503b948178bd5576aa5a86259ebb8432500d7311015f6b41b"), looks := true }, kinds := [], alts := [], laidByText := true, laidKinds := [.data, .pinned], laidTests := true, laidLooks := .later }
def CursPlaysCardSaid : Prop := Claim7.holds Tryz.pinned (.plain (OpenSpec.ofChange cursPlaysSpec)) cursPlaysCard

/-- THE TIED CARD OF 'arboretumlaw12.CursWalks'. -/
def cursWalksCard : Claim7 := { stood := { row := cursWalksRow, standIns := [], harness := (true, "a33b2f475c1f761503b948178bd5576aa5a86259ebb8432500d7311015f6b41b"), looks := true }, kinds := [], alts := [], laidByText := true, laidKinds := [.data, .pinned], laidTests := true, laidLooks := .later }
def CursWalksCardSaid : Prop := Claim7.holds Tryz.pinned (.plain (OpenSpec.ofChange cursWalksSpec)) cursWalksCard

/-- THE TIED CARD OF 'arboretumlaw11.TreeOrders'. -/
def treeOrdersCard : Claim7 := { stood := { row := treeOrdersRow, standIns := [], harness := (true, "a33b2f475c1f761503b948178bd5576aa5a86259ebb8432500d7311015f6b41b"), looks := true }, kinds := [], alts := [], laidByText := true, laidKinds := [.data, .pinned], laidTests := true, laidLooks := .later }
def TreeOrdersCardSaid : Prop := Claim7.holds Tryz.pinned (.plain (OpenSpec.ofChange treeOrdersSpec)) treeOrdersCard

/-- THE TIED CARD OF 'arboretumlaw11.TreeBad'. -/
def treeBadCard : Claim7 := { stood := { row := treeBadRow, standIns := [], harness := (true, "a33b2f475c1f761503b948178bd5576aa5a86259ebb8432500d7311015f6b41b"), looks := true }, kinds := [], alts := [], laidByText := true, laidKinds := [.data, .pinned], laidTests := true, laidLooks := .later }
def TreeBadCardSaid : Prop := Claim7.holds Tryz.pinned (.plain (OpenSpec.ofChange treeBadSpec)) treeBadCard

/-- THE SECOND FORM's CARD OF 'arboretumlaw12.CursRanges'. -/
def cursRangesUptoCard : Claim7 := { stood := { row := cursRangesUptoRow, standIns := [], harness := (true, "a33b2f475c1f761503b948178bd5576aa5a86259ebb8432500d7311015f6b41b"), looks := true }, kinds := [], alts := [], laidByText := true, laidKinds := [.data, .pinned], laidTests := true, laidLooks := .later }
def CursRangesUptoCardSaid : Prop := Claim7.holds Tryz.pinned (.plain (OpenSpec.upto cursRangesSpec)) cursRangesUptoCard

/-- THE SECOND FORM's CARD OF 'arboretumlaw12.CursPlays'. -/
def cursPlaysUptoCard : Claim7 := { stood := { row := cursPlaysUptoRow, standIns := [], harness := (true, "a33b2f475c1f761503b948178bd5576aa5a86259ebb8432500d7311015f6b41b"), looks := true }, kinds := [], alts := [], laidByText := true, laidKinds := [.data, .pinned], laidTests := true, laidLooks := .later }
def CursPlaysUptoCardSaid : Prop := Claim7.holds Tryz.pinned (.plain (OpenSpec.upto cursPlaysSpec)) cursPlaysUptoCard

/-- THE SECOND FORM's CARD OF 'arboretumlaw12.CursWalks'. -/
def cursWalksUptoCard : Claim7 := { stood := { row := cursWalksUptoRow, standIns := [], harness := (true, "a33b2f475c1f761503b948178bd5576aa5a86259ebb8432500d7311015f6b41b"), looks := true }, kinds := [], alts := [], laidByText := true, laidKinds := [.data, .pinned], laidTests := true, laidLooks := .later }
def CursWalksUptoCardSaid : Prop := Claim7.holds Tryz.pinned (.plain (OpenSpec.upto cursWalksSpec)) cursWalksUptoCard

/-- THE SECOND FORM's CARD OF 'arboretumlaw11.TreeOrders'. -/
def treeOrdersUptoCard : Claim7 := { stood := { row := treeOrdersUptoRow, standIns := [], harness := (true, "a33b2f475c1f761503b948178bd5576aa5a86259ebb8432500d7311015f6b41b"), looks := true }, kinds := [], alts := [], laidByText := true, laidKinds := [.data, .pinned], laidTests := true, laidLooks := .later }
def TreeOrdersUptoCardSaid : Prop := Claim7.holds Tryz.pinned (.plain (OpenSpec.upto treeOrdersSpec)) treeOrdersUptoCard

/-- THE SECOND FORM's CARD OF 'arboretumlaw11.TreeBad'. -/
def treeBadUptoCard : Claim7 := { stood := { row := treeBadUptoRow, standIns := [], harness := (true, "a33b2f475c1f761503b948178bd5576aa5a86259ebb8432500d7311015f6b41b"), looks := true }, kinds := [], alts := [], laidByText := true, laidKinds := [.data, .pinned], laidTests := true, laidLooks := .later }
def TreeBadUptoCardSaid : Prop := Claim7.holds Tryz.pinned (.plain (OpenSpec.upto treeBadSpec)) treeBadUptoCard
end Rows
end Go.Proofs.YtgfmhppkmogdhaaGreatDoor
