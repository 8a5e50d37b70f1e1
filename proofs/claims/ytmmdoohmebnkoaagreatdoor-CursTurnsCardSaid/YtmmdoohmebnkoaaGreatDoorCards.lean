/-
  DERIVED. GIVEN WITH THE SEED: THE CARDS: each row of YtmmdoohmebnkoaaGreatDoorRows.lean that lists a variable, with what it lists TIED to the program's text (the seventh form; the later family's looks); each row that meets fmt, with fmt's text TOLD by the authors' own Lean function (tested against real Go, not proved from fmt's source: count such statements apart). THE CARD IS WHAT COUNTS. Prove the row's statement (the work); the ties are given (YtmmdoohmebnkoaaGreatDoorTie.lean); close each card by the builder's one call (the guide's Derived/Test/ToyasCard.lean, 'card_holds'). Laid BY PROGRAM, IN A SANDBOX (cutbox-door.mjs). By AI agents, Wed Nov 11 2026. No macro, syntax, notation, axiom, sorry.
-/
import Derived.Test.YtmmdoohmebnkoaaGreatDoorRows
import GoSem.ClaimSeven
namespace Go.Proofs.YtmmdoohmebnkoaaGreatDoor
namespace Rows

/-- THE TIED CARD OF 'arboretumlaw12.CursTurns'. -/
def cursTurnsCard : Claim7 := { stood := { row := cursTurnsRow, standIns := [], harness := (true, "4e7324e83df1ec9e12355907a74013b02b2b1005aff3a65a1847bf140ab4f948"), looks := true }, kinds := [], alts := [], laidByText := true, laidKinds := [.data, .pinned], laidTests := true, laidLooks := .later }
def CursTurnsCardSaid : Prop := Claim7.holds Tryz.pinned (.plain (OpenSpec.ofChange cursTurnsSpec)) cursTurnsCard

/-- THE SECOND FORM's CARD OF 'arboretumlaw12.CursTurns'. -/
def cursTurnsUptoCard : Claim7 := { stood := { row := cursTurnsUptoRow, standIns := [], harness := (true, "4e7324e83df1ec9e12355907a74013b02b2b1005aff3a65a1847bf140ab4f948"), looks := true }, kinds := [], alts := [], laidByText := true, laidKinds := [.data, .pinned], laidTests := true, laidLooks := .later }
def CursTurnsUptoCardSaid : Prop := Claim7.holds Tryz.pinned (.plain (OpenSpec.upto cursTurnsSpec)) cursTurnsUptoCard
end Rows
end Go.Proofs.YtmmdoohmebnkoaaGreatDoor
