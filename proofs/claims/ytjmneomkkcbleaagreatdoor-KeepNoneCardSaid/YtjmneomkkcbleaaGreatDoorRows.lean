/-
  NARROWER THAN 'FOR EVERY INPUT', by the rows' own cells (each row's printed sentence says how): ScanNone: laid · TreeNone: laid · SessNone: laid · KeepNone: laid · KvNone: laid · DbNone: laid · SnapNone: laid.
  DERIVED. THE GIVEN ROWS OF THIS SEAT. 7 by the template 'for every input the law returns true; each argument reads behind the call as it read before'; 0 by the template 'total and deterministic' (their statements: YtjmneomkkcbleaaGreatDoorTotals.lean).
  GIVEN WITH THE SEED: the statements are not yours to turn. If you find one false, say at which input.
  Laid BY PROGRAM, IN A SANDBOX (cutbox-rows.mjs): the forced cells as the released guide's own fill.sh prints them over the translation c072d9249b018f57… (all of the seat's roots in one cut). By AI agents, Wed Nov 11 2026. No macro, syntax, notation, axiom, sorry.
-/
import Derived.Test.YtjmneomkkcbleaaGreatDoorChecked
import GoSem.PinnedTables
import GoSem.Claim
import GoSem.ClaimJoined
import GoSem.ClaimMapViews
import Derived.JoinedTies
import Derived.KernelRfl
namespace Go.Proofs.YtjmneomkkcbleaaGreatDoor
/- THE CELL 'sum', in the pinned program and in every row, IS THE sha256 OF THE DUMP (.gsa) THAT YtjmneomkkcbleaaGreatDoorProg.lean LOADS. Nothing in Lean hashes anything: it is a label: what it is worth is what the hold of that sum in a sandbox is worth. -/
noncomputable def Tryz.pinned : Pinned := { name := "ytjmneomkkcbleaagreatdoor", sum := "c072d9249b018f570d723c7368eb8ea214ce9c9146fc5d3f29a95ac6e52a4c20", checked := Tryz.checked }
namespace Rows
def none {H : Type} : Left H := { results := [], args := [] }

/- WHAT THE LISTED PACKAGE-LEVEL VARIABLES READ AS WHEN THE CALL BEGINS. Each datum BY PROGRAM (the guide's laid-datum.mjs) off the statement by which the dump's own 'gosem.cut.vars' lays the variable. In a bare row this is a premise. The card (YtjmneomkkcbleaaGreatDoorCards.lean) ties it to the program's text. -/
def laid_unicode_utf8_acceptRanges {H : Type} : DataW H := .agg [.agg [.lit (.int .u8 128), .lit (.int .u8 191)], .agg [.lit (.int .u8 160), .lit (.int .u8 191)], .agg [.lit (.int .u8 128), .lit (.int .u8 159)], .agg [.lit (.int .u8 144), .lit (.int .u8 191)], .agg [.lit (.int .u8 128), .lit (.int .u8 143)], .agg [.lit (.int .u8 0), .lit (.int .u8 0)], .agg [.lit (.int .u8 0), .lit (.int .u8 0)], .agg [.lit (.int .u8 0), .lit (.int .u8 0)], .agg [.lit (.int .u8 0), .lit (.int .u8 0)], .agg [.lit (.int .u8 0), .lit (.int .u8 0)], .agg [.lit (.int .u8 0), .lit (.int .u8 0)], .agg [.lit (.int .u8 0), .lit (.int .u8 0)], .agg [.lit (.int .u8 0), .lit (.int .u8 0)], .agg [.lit (.int .u8 0), .lit (.int .u8 0)], .agg [.lit (.int .u8 0), .lit (.int .u8 0)], .agg [.lit (.int .u8 0), .lit (.int .u8 0)]]
/-- One of Go's own tables, pinned by name: the form's constant. -/
def laid_unicode_utf8_first : DataW Unit := Go.Pinned.utf8First

/-- 'arboretumlaw15.ScanNone': WHATEVER THE INPUT: true; the input reads as it did. -/
def scanNoneSpec : ChangeSpec := { name := "scanNone", fn := fun _ => fun
  | [] => { results := [.lit (.bool true)], args := [] }
  | _ => none }
def scanNoneRow : OpenClaim := { program := "ytjmneomkkcbleaagreatdoor", sum := "c072d9249b018f570d723c7368eb8ea214ce9c9146fc5d3f29a95ac6e52a4c20", func := "arboretum/arboretumlaw15.ScanNone", spec := "scanNone", inPlace := ["internal/bytealg.IndexByteString", "internal/bytealg.IndexString", "internal/abi.NoEscape", "internal/bytealg.MakeNoZero"], unfollowed := true, recurses := true, named := ["unicode/utf8.first", "unicode/utf8.acceptRanges", "internal/bytealg.MaxLen"], apart := false, laid := [("unicode/utf8.acceptRanges", laid_unicode_utf8_acceptRanges), ("unicode/utf8.first", laid_unicode_utf8_first)] }
def ScanNoneSaid : Prop := scanNoneRow.holds Tryz.pinned (OpenSpec.ofChange scanNoneSpec)

/-- ITS FALSE NEIGHBOUR: 'it returns false'. Refute it at one input. -/
def scanNoneWrong : ChangeSpec := { name := "scanNone", fn := fun _ => fun
  | [] => { results := [.lit (.bool false)], args := [] }
  | _ => none }
def ScanNoneWrongFalsely : Prop := scanNoneRow.holds Tryz.pinned (OpenSpec.ofChange scanNoneWrong)

/-- 'arboretumlaw11.TreeNone': WHATEVER THE INPUT: true; the input reads as it did. -/
def treeNoneSpec : ChangeSpec := { name := "treeNone", fn := fun _ => fun
  | [d1, d2, d3] => { results := [.lit (.bool true)], args := [d1, d2, d3] }
  | _ => none }
def treeNoneRow : OpenClaim := { program := "ytjmneomkkcbleaagreatdoor", sum := "c072d9249b018f570d723c7368eb8ea214ce9c9146fc5d3f29a95ac6e52a4c20", func := "arboretum/arboretumlaw11.TreeNone", spec := "treeNone", inPlace := ["internal/abi.NoEscape", "internal/bytealg.MakeNoZero", "internal/bytealg.IndexByteString", "internal/bytealg.IndexString", "slices.overlaps[arboretum/api.Item]"], unfollowed := true, recurses := true, named := ["unicode/utf8.first", "unicode/utf8.acceptRanges", "internal/bytealg.MaxLen"], apart := false, laid := [("unicode/utf8.acceptRanges", laid_unicode_utf8_acceptRanges), ("unicode/utf8.first", laid_unicode_utf8_first)] }
def TreeNoneSaid : Prop := treeNoneRow.holds Tryz.pinned (OpenSpec.ofChange treeNoneSpec)

/-- ITS FALSE NEIGHBOUR: 'it returns false'. Refute it at one input. -/
def treeNoneWrong : ChangeSpec := { name := "treeNone", fn := fun _ => fun
  | [d1, d2, d3] => { results := [.lit (.bool false)], args := [d1, d2, d3] }
  | _ => none }
def TreeNoneWrongFalsely : Prop := treeNoneRow.holds Tryz.pinned (OpenSpec.ofChange treeNoneWrong)

/-- 'arboretumlaw24.SessNone': WHATEVER THE INPUT: true; the input reads as it did. -/
def sessNoneSpec : ChangeSpec := { name := "sessNone", fn := fun _ => fun
  | [d] => { results := [.lit (.bool true)], args := [d] }
  | _ => none }
def sessNoneRow : OpenClaim := { program := "ytjmneomkkcbleaagreatdoor", sum := "c072d9249b018f570d723c7368eb8ea214ce9c9146fc5d3f29a95ac6e52a4c20", func := "arboretum/arboretumlaw24.SessNone", spec := "sessNone", inPlace := ["internal/bytealg.IndexByteString", "internal/bytealg.IndexString", "internal/abi.NoEscape", "internal/bytealg.MakeNoZero", "slices.overlaps[arboretum/api.Item]"], unfollowed := true, recurses := true, named := ["unicode/utf8.first", "unicode/utf8.acceptRanges", "internal/bytealg.MaxLen"], apart := false, laid := [("unicode/utf8.acceptRanges", laid_unicode_utf8_acceptRanges), ("unicode/utf8.first", laid_unicode_utf8_first)] }
def SessNoneSaid : Prop := sessNoneRow.holds Tryz.pinned (OpenSpec.ofChange sessNoneSpec)

/-- ITS FALSE NEIGHBOUR: 'it returns false'. Refute it at one input. -/
def sessNoneWrong : ChangeSpec := { name := "sessNone", fn := fun _ => fun
  | [d] => { results := [.lit (.bool false)], args := [d] }
  | _ => none }
def SessNoneWrongFalsely : Prop := sessNoneRow.holds Tryz.pinned (OpenSpec.ofChange sessNoneWrong)

/-- 'arboretumlaw19.KeepNone': WHATEVER THE INPUT: true; the input reads as it did. -/
def keepNoneSpec : ChangeSpec := { name := "keepNone", fn := fun _ => fun
  | [d] => { results := [.lit (.bool true)], args := [d] }
  | _ => none }
def keepNoneRow : OpenClaim := { program := "ytjmneomkkcbleaagreatdoor", sum := "c072d9249b018f570d723c7368eb8ea214ce9c9146fc5d3f29a95ac6e52a4c20", func := "arboretum/arboretumlaw19.KeepNone", spec := "keepNone", inPlace := ["internal/abi.NoEscape", "internal/bytealg.MakeNoZero", "internal/bytealg.IndexByteString", "internal/bytealg.IndexString", "slices.overlaps[arboretum/api.Item]"], unfollowed := true, recurses := true, named := ["unicode/utf8.first", "unicode/utf8.acceptRanges", "internal/bytealg.MaxLen"], apart := false, laid := [("unicode/utf8.acceptRanges", laid_unicode_utf8_acceptRanges), ("unicode/utf8.first", laid_unicode_utf8_first)] }
def KeepNoneSaid : Prop := keepNoneRow.holds Tryz.pinned (OpenSpec.ofChange keepNoneSpec)

/-- ITS FALSE NEIGHBOUR: 'it returns false'. Refute it at one input. -/
def keepNoneWrong : ChangeSpec := { name := "keepNone", fn := fun _ => fun
  | [d] => { results := [.lit (.bool false)], args := [d] }
  | _ => none }
def KeepNoneWrongFalsely : Prop := keepNoneRow.holds Tryz.pinned (OpenSpec.ofChange keepNoneWrong)

/-- 'arboretumlaw25.KvNone': WHATEVER THE INPUT: true; the input reads as it did. -/
def kvNoneSpec : ChangeSpec := { name := "kvNone", fn := fun _ => fun
  | [d] => { results := [.lit (.bool true)], args := [d] }
  | _ => none }
def kvNoneRow : OpenClaim := { program := "ytjmneomkkcbleaagreatdoor", sum := "c072d9249b018f570d723c7368eb8ea214ce9c9146fc5d3f29a95ac6e52a4c20", func := "arboretum/arboretumlaw25.KvNone", spec := "kvNone", inPlace := ["internal/abi.NoEscape", "internal/bytealg.MakeNoZero", "internal/bytealg.IndexByteString", "internal/bytealg.IndexString", "slices.overlaps[arboretum/api.Item]"], unfollowed := true, recurses := true, named := ["unicode/utf8.first", "unicode/utf8.acceptRanges", "internal/bytealg.MaxLen"], apart := false, laid := [("unicode/utf8.acceptRanges", laid_unicode_utf8_acceptRanges), ("unicode/utf8.first", laid_unicode_utf8_first)] }
def KvNoneSaid : Prop := kvNoneRow.holds Tryz.pinned (OpenSpec.ofChange kvNoneSpec)

/-- ITS FALSE NEIGHBOUR: 'it returns false'. Refute it at one input. -/
def kvNoneWrong : ChangeSpec := { name := "kvNone", fn := fun _ => fun
  | [d] => { results := [.lit (.bool false)], args := [d] }
  | _ => none }
def KvNoneWrongFalsely : Prop := kvNoneRow.holds Tryz.pinned (OpenSpec.ofChange kvNoneWrong)

/-- 'arboretumlaw14.DbNone': WHATEVER THE INPUT: true; the input reads as it did. -/
def dbNoneSpec : ChangeSpec := { name := "dbNone", fn := fun _ => fun
  | [] => { results := [.lit (.bool true)], args := [] }
  | _ => none }
def dbNoneRow : OpenClaim := { program := "ytjmneomkkcbleaagreatdoor", sum := "c072d9249b018f570d723c7368eb8ea214ce9c9146fc5d3f29a95ac6e52a4c20", func := "arboretum/arboretumlaw14.DbNone", spec := "dbNone", inPlace := ["internal/bytealg.IndexByteString", "internal/bytealg.IndexString", "internal/abi.NoEscape", "internal/bytealg.MakeNoZero", "slices.overlaps[arboretum/api.Item]"], unfollowed := true, recurses := true, named := ["unicode/utf8.first", "unicode/utf8.acceptRanges", "internal/bytealg.MaxLen"], apart := false, laid := [("unicode/utf8.acceptRanges", laid_unicode_utf8_acceptRanges), ("unicode/utf8.first", laid_unicode_utf8_first)] }
def DbNoneSaid : Prop := dbNoneRow.holds Tryz.pinned (OpenSpec.ofChange dbNoneSpec)

/-- ITS FALSE NEIGHBOUR: 'it returns false'. Refute it at one input. -/
def dbNoneWrong : ChangeSpec := { name := "dbNone", fn := fun _ => fun
  | [] => { results := [.lit (.bool false)], args := [] }
  | _ => none }
def DbNoneWrongFalsely : Prop := dbNoneRow.holds Tryz.pinned (OpenSpec.ofChange dbNoneWrong)

/-- 'arboretumlaw22.SnapNone': WHATEVER THE INPUT: true; the input reads as it did. -/
def snapNoneSpec : ChangeSpec := { name := "snapNone", fn := fun _ => fun
  | [d] => { results := [.lit (.bool true)], args := [d] }
  | _ => none }
def snapNoneRow : OpenClaim := { program := "ytjmneomkkcbleaagreatdoor", sum := "c072d9249b018f570d723c7368eb8ea214ce9c9146fc5d3f29a95ac6e52a4c20", func := "arboretum/arboretumlaw22.SnapNone", spec := "snapNone", inPlace := ["internal/bytealg.IndexByteString", "internal/bytealg.IndexString", "internal/abi.NoEscape", "internal/bytealg.MakeNoZero", "slices.overlaps[arboretum/api.Item]"], unfollowed := true, recurses := true, named := ["unicode/utf8.first", "unicode/utf8.acceptRanges", "internal/bytealg.MaxLen"], apart := false, laid := [("unicode/utf8.acceptRanges", laid_unicode_utf8_acceptRanges), ("unicode/utf8.first", laid_unicode_utf8_first)] }
def SnapNoneSaid : Prop := snapNoneRow.holds Tryz.pinned (OpenSpec.ofChange snapNoneSpec)

/-- ITS FALSE NEIGHBOUR: 'it returns false'. Refute it at one input. -/
def snapNoneWrong : ChangeSpec := { name := "snapNone", fn := fun _ => fun
  | [d] => { results := [.lit (.bool false)], args := [d] }
  | _ => none }
def SnapNoneWrongFalsely : Prop := snapNoneRow.holds Tryz.pinned (OpenSpec.ofChange snapNoneWrong)

/- THE SECOND FORM. 'bulk': how many values and letters a reading holds, each counted each time it is reached (what is shared counts as often as it is met; a slice's spare places count too). A statement '..UptoSaid' is the law's where the arguments, and the package variables that the reading takes, are together of bulk at most 1048576: NARROWER than '..Said'. Prove '..Said' where nothing that the law and all that it calls make is longer than what came in: it says more and counts as full. Else prove '..UptoSaid'. A law counts once. -/
mutual
def uptoBulk {H : Type} : DataW H → Nat
  | .lit (.string bytes) => bytes.length + 1
  | .lit _ => 1
  | .nil => 1
  | .ptr d => uptoBulk d + 1
  | .slice elems spare => uptoBulkAll elems + uptoBulkAll spare + 1
  | .agg parts => uptoBulkAll parts + 1
  | .iface _ d => uptoBulk d + 1
  | .map entries => uptoBulkEntries entries + 1
  | .held _ => 1
def uptoBulkAll {H : Type} : List (DataW H) → Nat
  | [] => 0
  | d :: r => uptoBulk d + uptoBulkAll r
def uptoBulkEntries {H : Type} : List (Lit × DataW H) → Nat
  | [] => 0
  | x :: r => uptoBulkEntry x + uptoBulkEntries r
def uptoBulkEntry {H : Type} : Lit × DataW H → Nat
  | (.string bytes, d) => bytes.length + uptoBulk d + 1
  | (_, d) => uptoBulk d + 1
 end
def uptoSmall : (H : Type) → List (DataW H) → Bool := fun _ ds => decide (uptoBulkAll ds ≤ 1048576)
def OpenSpec.upto (s : _root_.Go.ChangeSpec) : _root_.Go.OpenSpec := { _root_.Go.OpenSpec.ofChange s with cond := some uptoSmall }

/-- 'arboretumlaw15.ScanNone', WHERE WHAT IT READS IS OF BULK AT MOST 1048576: true; the input reads as it did. -/
def scanNoneUptoRow : OpenClaim := { program := "ytjmneomkkcbleaagreatdoor", sum := "c072d9249b018f570d723c7368eb8ea214ce9c9146fc5d3f29a95ac6e52a4c20", func := "arboretum/arboretumlaw15.ScanNone", spec := "scanNone", inPlace := ["internal/bytealg.IndexByteString", "internal/bytealg.IndexString", "internal/abi.NoEscape", "internal/bytealg.MakeNoZero"], unfollowed := true, recurses := true, named := ["unicode/utf8.first", "unicode/utf8.acceptRanges", "internal/bytealg.MaxLen"], apart := false, laid := [("unicode/utf8.acceptRanges", laid_unicode_utf8_acceptRanges), ("unicode/utf8.first", laid_unicode_utf8_first)], narrowed := true }
def ScanNoneUptoSaid : Prop := scanNoneUptoRow.holds Tryz.pinned (OpenSpec.upto scanNoneSpec)

/-- 'arboretumlaw11.TreeNone', WHERE WHAT IT READS IS OF BULK AT MOST 1048576: true; the input reads as it did. -/
def treeNoneUptoRow : OpenClaim := { program := "ytjmneomkkcbleaagreatdoor", sum := "c072d9249b018f570d723c7368eb8ea214ce9c9146fc5d3f29a95ac6e52a4c20", func := "arboretum/arboretumlaw11.TreeNone", spec := "treeNone", inPlace := ["internal/abi.NoEscape", "internal/bytealg.MakeNoZero", "internal/bytealg.IndexByteString", "internal/bytealg.IndexString", "slices.overlaps[arboretum/api.Item]"], unfollowed := true, recurses := true, named := ["unicode/utf8.first", "unicode/utf8.acceptRanges", "internal/bytealg.MaxLen"], apart := false, laid := [("unicode/utf8.acceptRanges", laid_unicode_utf8_acceptRanges), ("unicode/utf8.first", laid_unicode_utf8_first)], narrowed := true }
def TreeNoneUptoSaid : Prop := treeNoneUptoRow.holds Tryz.pinned (OpenSpec.upto treeNoneSpec)

/-- 'arboretumlaw24.SessNone', WHERE WHAT IT READS IS OF BULK AT MOST 1048576: true; the input reads as it did. -/
def sessNoneUptoRow : OpenClaim := { program := "ytjmneomkkcbleaagreatdoor", sum := "c072d9249b018f570d723c7368eb8ea214ce9c9146fc5d3f29a95ac6e52a4c20", func := "arboretum/arboretumlaw24.SessNone", spec := "sessNone", inPlace := ["internal/bytealg.IndexByteString", "internal/bytealg.IndexString", "internal/abi.NoEscape", "internal/bytealg.MakeNoZero", "slices.overlaps[arboretum/api.Item]"], unfollowed := true, recurses := true, named := ["unicode/utf8.first", "unicode/utf8.acceptRanges", "internal/bytealg.MaxLen"], apart := false, laid := [("unicode/utf8.acceptRanges", laid_unicode_utf8_acceptRanges), ("unicode/utf8.first", laid_unicode_utf8_first)], narrowed := true }
def SessNoneUptoSaid : Prop := sessNoneUptoRow.holds Tryz.pinned (OpenSpec.upto sessNoneSpec)

/-- 'arboretumlaw19.KeepNone', WHERE WHAT IT READS IS OF BULK AT MOST 1048576: true; the input reads as it did. -/
def keepNoneUptoRow : OpenClaim := { program := "ytjmneomkkcbleaagreatdoor", sum := "c072d9249b018f570d723c7368eb8ea214ce9c9146fc5d3f29a95ac6e52a4c20", func := "arboretum/arboretumlaw19.KeepNone", spec := "keepNone", inPlace := ["internal/abi.NoEscape", "internal/bytealg.MakeNoZero", "internal/bytealg.IndexByteString", "internal/bytealg.IndexString", "slices.overlaps[arboretum/api.Item]"], unfollowed := true, recurses := true, named := ["unicode/utf8.first", "unicode/utf8.acceptRanges", "internal/bytealg.MaxLen"], apart := false, laid := [("unicode/utf8.acceptRanges", laid_unicode_utf8_acceptRanges), ("unicode/utf8.first", laid_unicode_utf8_first)], narrowed := true }
def KeepNoneUptoSaid : Prop := keepNoneUptoRow.holds Tryz.pinned (OpenSpec.upto keepNoneSpec)

/-- 'arboretumlaw25.KvNone', WHERE WHAT IT READS IS OF BULK AT MOST 1048576: true; the input reads as it did. -/
def kvNoneUptoRow : OpenClaim := { program := "ytjmneomkkcbleaagreatdoor", sum := "c072d9249b018f570d723c7368eb8ea214ce9c9146fc5d3f29a95ac6e52a4c20", func := "arboretum/arboretumlaw25.KvNone", spec := "kvNone", inPlace := ["internal/abi.NoEscape", "internal/bytealg.MakeNoZero", "internal/bytealg.IndexByteString", "internal/bytealg.IndexString", "slices.overlaps[arboretum/api.Item]"], unfollowed := true, recurses := true, named := ["unicode/utf8.first", "unicode/utf8.acceptRanges", "internal/bytealg.MaxLen"], apart := false, laid := [("unicode/utf8.acceptRanges", laid_unicode_utf8_acceptRanges), ("unicode/utf8.first", laid_unicode_utf8_first)], narrowed := true }
def KvNoneUptoSaid : Prop := kvNoneUptoRow.holds Tryz.pinned (OpenSpec.upto kvNoneSpec)

/-- 'arboretumlaw14.DbNone', WHERE WHAT IT READS IS OF BULK AT MOST 1048576: true; the input reads as it did. -/
def dbNoneUptoRow : OpenClaim := { program := "ytjmneomkkcbleaagreatdoor", sum := "c072d9249b018f570d723c7368eb8ea214ce9c9146fc5d3f29a95ac6e52a4c20", func := "arboretum/arboretumlaw14.DbNone", spec := "dbNone", inPlace := ["internal/bytealg.IndexByteString", "internal/bytealg.IndexString", "internal/abi.NoEscape", "internal/bytealg.MakeNoZero", "slices.overlaps[arboretum/api.Item]"], unfollowed := true, recurses := true, named := ["unicode/utf8.first", "unicode/utf8.acceptRanges", "internal/bytealg.MaxLen"], apart := false, laid := [("unicode/utf8.acceptRanges", laid_unicode_utf8_acceptRanges), ("unicode/utf8.first", laid_unicode_utf8_first)], narrowed := true }
def DbNoneUptoSaid : Prop := dbNoneUptoRow.holds Tryz.pinned (OpenSpec.upto dbNoneSpec)

/-- 'arboretumlaw22.SnapNone', WHERE WHAT IT READS IS OF BULK AT MOST 1048576: true; the input reads as it did. -/
def snapNoneUptoRow : OpenClaim := { program := "ytjmneomkkcbleaagreatdoor", sum := "c072d9249b018f570d723c7368eb8ea214ce9c9146fc5d3f29a95ac6e52a4c20", func := "arboretum/arboretumlaw22.SnapNone", spec := "snapNone", inPlace := ["internal/bytealg.IndexByteString", "internal/bytealg.IndexString", "internal/abi.NoEscape", "internal/bytealg.MakeNoZero", "slices.overlaps[arboretum/api.Item]"], unfollowed := true, recurses := true, named := ["unicode/utf8.first", "unicode/utf8.acceptRanges", "internal/bytealg.MaxLen"], apart := false, laid := [("unicode/utf8.acceptRanges", laid_unicode_utf8_acceptRanges), ("unicode/utf8.first", laid_unicode_utf8_first)], narrowed := true }
def SnapNoneUptoSaid : Prop := snapNoneUptoRow.holds Tryz.pinned (OpenSpec.upto snapNoneSpec)

end Rows
end Go.Proofs.YtjmneomkkcbleaaGreatDoor
