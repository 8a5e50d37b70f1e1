/-
  DERIVED. GIVEN WITH THE SEED: THE CARDS: each row of YtmfoiaaehkandaaGreatDoorRows.lean that lists a variable, with what it lists TIED to the program's text (the seventh form; the later family's looks); each row that meets fmt, with fmt's text TOLD by the authors' own Lean function (tested against real Go, not proved from fmt's source: count such statements apart). THE CARD IS WHAT COUNTS. Prove the row's statement (the work); the ties are given (YtmfoiaaehkandaaGreatDoorTie.lean); close each card by the builder's one call (the guide's Derived/Test/ToyasCard.lean, 'card_holds'). Laid BY PROGRAM, IN A SANDBOX (cutbox-door.mjs). By AI agents, Wed Nov 11 2026. No macro, syntax, notation, axiom, sorry.
-/
import Derived.Test.YtmfoiaaehkandaaGreatDoorRows
import GoSem.ClaimSeven
namespace Go.Proofs.YtmfoiaaehkandaaGreatDoor
namespace Rows

/-- THE TIED CARD OF 'arboretumlaw19.KeepBack'. -/
def keepBackCard : Claim7 := { stood := { row := keepBackRow, standIns := [], harness := (true, "7fe17c42c0e49ccfca31a765acb9a0d2e44b8c2aa015a748bce073b15958d515"), looks := true }, kinds := [], alts := [], laidByText := true, laidKinds := [.data, .pinned], laidTests := true, laidLooks := .later }
def KeepBackCardSaid : Prop := Claim7.holds Tryz.pinned (.plain (OpenSpec.ofChange keepBackSpec)) keepBackCard

/-- THE TIED CARD OF 'arboretumlaw19.KeepCuts'. -/
def keepCutsCard : Claim7 := { stood := { row := keepCutsRow, standIns := [], harness := (true, "7fe17c42c0e49ccfca31a765acb9a0d2e44b8c2aa015a748bce073b15958d515"), looks := true }, kinds := [], alts := [], laidByText := true, laidKinds := [.data, .pinned], laidTests := true, laidLooks := .later }
def KeepCutsCardSaid : Prop := Claim7.holds Tryz.pinned (.plain (OpenSpec.ofChange keepCutsSpec)) keepCutsCard

/-- THE TIED CARD OF 'arboretumlaw19.KeepHard'. -/
def keepHardCard : Claim7 := { stood := { row := keepHardRow, standIns := [], harness := (true, "7fe17c42c0e49ccfca31a765acb9a0d2e44b8c2aa015a748bce073b15958d515"), looks := true }, kinds := [], alts := [], laidByText := true, laidKinds := [.data, .pinned], laidTests := true, laidLooks := .later }
def KeepHardCardSaid : Prop := Claim7.holds Tryz.pinned (.plain (OpenSpec.ofChange keepHardSpec)) keepHardCard

/-- THE TIED CARD OF 'arboretumlaw25.KvOnce'. -/
def kvOnceCard : Claim7 := { stood := { row := kvOnceRow, standIns := [], harness := (true, "7fe17c42c0e49ccfca31a765acb9a0d2e44b8c2aa015a748bce073b15958d515"), looks := true }, kinds := [], alts := [], laidByText := true, laidKinds := [.data, .pinned], laidTests := true, laidLooks := .later }
def KvOnceCardSaid : Prop := Claim7.holds Tryz.pinned (.plain (OpenSpec.ofChange kvOnceSpec)) kvOnceCard

/-- THE SECOND FORM's CARD OF 'arboretumlaw19.KeepBack'. -/
def keepBackUptoCard : Claim7 := { stood := { row := keepBackUptoRow, standIns := [], harness := (true, "7fe17c42c0e49ccfca31a765acb9a0d2e44b8c2aa015a748bce073b15958d515"), looks := true }, kinds := [], alts := [], laidByText := true, laidKinds := [.data, .pinned], laidTests := true, laidLooks := .later }
def KeepBackUptoCardSaid : Prop := Claim7.holds Tryz.pinned (.plain (OpenSpec.upto keepBackSpec)) keepBackUptoCard

/-- THE SECOND FORM's CARD OF 'arboretumlaw19.KeepCuts'. -/
def keepCutsUptoCard : Claim7 := { stood := { row := keepCutsUptoRow, standIns := [], harness := (true, "7fe17c42c0e49ccfca31a765acb9a0d2e44b8c2aa015a748bce073b15958d515"), looks := true }, kinds := [], alts := [], laidByText := true, laidKinds := [.data, .pinned], laidTests := true, laidLooks := .later }
def KeepCutsUptoCardSaid : Prop := Claim7.holds Tryz.pinned (.plain (OpenSpec.upto keepCutsSpec)) keepCutsUptoCard

/-- THE SECOND FORM's CARD OF 'arboretumlaw19.KeepHard'. -/
def keepHardUptoCard : Claim7 := { stood := { row := keepHardUptoRow, standIns := [], harness := (true, "7fe17c42c0e49ccfca31a765acb9a0d2e44b8c2aa015a748bce073b15958d515"), looks := true }, kinds := [], alts := [], laidByText := true, laidKinds := [.data, .pinned], laidTests := true, laidLooks := .later }
def KeepHardUptoCardSaid : Prop := Claim7.holds Tryz.pinned (.plain (OpenSpec.upto keepHardSpec)) keepHardUptoCard

/-- THE SECOND FORM's CARD OF 'arboretumlaw25.KvOnce'. -/
def kvOnceUptoCard : Claim7 := { stood := { row := kvOnceUptoRow, standIns := [], harness := (true, "7fe17c42c0e49ccfca31a765acb9a0d2e44b8c2aa015a748bce073b15958d515"), looks := true }, kinds := [], alts := [], laidByText := true, laidKinds := [.data, .pinned], laidTests := true, laidLooks := .later }
def KvOnceUptoCardSaid : Prop := Claim7.holds Tryz.pinned (.plain (OpenSpec.upto kvOnceSpec)) kvOnceUptoCard
end Rows
end Go.Proofs.YtmfoiaaehkandaaGreatDoor
