/-
  Calls of the run for Tree, each evaluated by itself.
-/
import Derived.Test.YtoihhmemmlfnaaaGreatDoorEvPrimOk
namespace Go.Proofs.YtoihhmemmlfnaaaGreatDoor
open Go.Ev
def tTree_0 : List UInt8 := [0, 0, 0, 0, 0, 0, 0, 0, 0, 0, 0, 0, 0, 0, 0, 0, 0, 0, 0, 0, 0, 0, 0, 0, 0, 0, 0, 0, 0, 0, 0, 0, 0, 0, 0, 0, 0, 0, 0, 0, 0, 0, 0, 0, 0, 0, 0, 0, 0, 0, 0, 0, 0, 0, 0, 0, 0, 0, 0, 0, 0, 0, 0, 0, 0, 0, 0, 0, 0, 0, 0, 0, 0, 0, 0, 0, 0, 0, 0, 0, 0, 0, 0, 0, 0, 0, 0, 0, 0, 0, 0, 0, 0, 0, 0, 0, 0, 0, 0, 0, 0, 0, 0, 0, 0, 0, 0, 0, 0, 0, 0, 0, 0, 0, 0, 0, 0, 0, 0, 0, 0, 0, 0, 0, 0, 0, 0, 0, 0, 0, 0, 0, 0, 0, 0, 0, 0, 0, 0, 0, 0, 0, 0, 0, 0, 0, 0, 0, 0, 0, 0, 0, 0, 0, 0, 0, 0, 0, 0, 0, 0, 0, 0, 0, 0, 0, 0, 0, 0, 0, 0, 0, 0, 0, 0, 0, 0, 0, 0, 0, 0, 0, 0, 0, 0, 0, 0, 0, 0, 0, 0, 0, 0, 0, 0, 0, 0, 0, 0, 0, 0, 0, 0, 0, 0, 0, 0, 0, 0, 0, 0, 0, 0, 0, 0, 0, 0, 0, 0, 0, 0, 0, 0, 0, 0, 0, 0, 0, 0, 0, 0, 0, 0, 0, 0, 0, 0, 0, 0, 0, 0, 0, 0, 0, 0, 0, 0, 0, 0, 0, 0, 0, 0, 0, 0, 0]

def mTree_0 : Memo := ⟨13, [.int .i64 (.ofNat 30)], 0, [],
  .tup [.ptr 0 0, .ptr 27 0, .ptr 34 0, .int .i64 (.ofNat 2), .bool true], 84, [(0, .cells ⟨[.int .i64 (.ofNat 30), .bool true, .bool false, .int .i64 (.ofNat 0), .sl 83 0 3 (.op 1), .sl 81 0 3 (.op 1), .nilc], 181, false, 0, false⟩),
  (27, .cells ⟨[.nils, .nils, .nilm], 193, false, 0, false⟩),
  (34, .cells ⟨[.ptr 0 0, .ptr 27 0, .int .i64 (.ofNat 2), .int .i64 (.ofNat 3), .int .i64 (.ofNat 1), .mp 35, .mp 36, .mp 37, .ptr 38 0], 86, false, 0, false⟩),
  (35, .map [(.int .i64 (.ofNat 2), .agg [.int .i64 (.ofNat 2), .int .i64 (.ofNat 0), .str []], 0)] 1),
  (36, .map [] 0),
  (37, .map [] 0),
  (38, .cells ⟨[.nils], 189, false, 0, false⟩),
  (81, .cells ⟨[.str tTree_0, .str tTree_0, .str tTree_0], 9, true, 0, false⟩),
  (83, .cells ⟨[.str tTree_0, .str tTree_0, .str tTree_0], 9, true, 0, false⟩)]⟩
theorem mTree_0_ok : memoOk mTree_0 ((fns (prims K0 [] []) 100000).call mTree_0.f mTree_0.args (memoSt mTree_0)) = true := by kernel_rfl

def msTree : List Memo := [mTree_0]
theorem memosTree : MemosOk msTree := (MemosOk.cons (soundAll aloneNil memosNil 100000) mTree_0_ok memosNil)
end Go.Proofs.YtoihhmemmlfnaaaGreatDoor
