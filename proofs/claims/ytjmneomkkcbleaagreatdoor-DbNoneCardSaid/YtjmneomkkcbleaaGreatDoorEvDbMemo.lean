/-
  Calls of the run for Db, each evaluated by itself.
-/
import Derived.Test.YtjmneomkkcbleaaGreatDoorEvPrimOk
namespace Go.Proofs.YtjmneomkkcbleaaGreatDoor
open Go.Ev
def tDb_0 : List UInt8 := [1, 0, 0, 0, 0, 0, 0, 0, 0, 24, 0, 0, 0, 0, 0, 0, 0, 2, 0, 0, 0, 0, 0, 0, 0, 0, 0, 0, 0, 3, 0, 0, 0, 0, 0, 0, 0, 0, 0, 0, 0, 0, 0, 0, 0, 0, 0, 0, 0, 0, 0, 0, 0, 0, 0, 0, 0, 0, 0, 0, 0, 0, 0, 0, 0, 0, 0, 0, 0, 0, 0, 0, 0, 0, 0, 0, 0, 0, 0, 0, 0, 0, 0, 0, 0, 0, 0, 0, 0, 0, 0, 0, 0, 0, 0, 0, 0, 0, 0, 0, 0, 0, 0, 0, 0, 0, 0, 0, 0, 0, 0, 0, 0, 0, 0, 0, 0, 0, 0, 0, 0, 0, 0, 0, 0, 0, 0, 0, 0, 0, 0, 0, 0, 0, 0, 0, 0, 0, 0, 0, 0, 0, 0, 0, 0, 0, 0, 0, 0, 0, 0, 0, 0, 0, 0, 0, 0, 0, 0, 0, 0, 0, 0, 0, 0, 0, 0, 0, 0, 0, 0, 0, 0, 0, 0, 0, 0, 0, 0, 0, 0, 0, 0, 0, 0, 0, 0, 0, 0, 0, 0, 0, 0, 0, 0, 0, 0, 0, 0, 0, 0, 0, 0, 0, 0, 0, 0, 0, 0, 0, 0, 0, 0, 0, 0, 0, 0, 0, 0, 0, 0, 0, 0, 0, 0, 0, 0, 0, 0, 0, 0, 0, 0, 0, 0, 0, 0, 0, 0, 0, 0, 0, 0, 0, 0, 0, 0, 0, 0, 0, 0, 0, 155, 81, 181, 188]
def tDb_1 : List UInt8 := [1, 1, 0, 0, 0, 0, 0, 0, 0, 24, 0, 1, 0, 0, 0, 0, 0, 2, 0, 0, 0, 0, 0, 0, 0, 0, 0, 0, 0, 3, 0, 0, 0, 0, 0, 0, 0, 0, 0, 0, 0, 0, 0, 0, 0, 0, 0, 0, 0, 0, 0, 0, 0, 0, 0, 0, 0, 0, 0, 0, 0, 0, 0, 0, 0, 0, 0, 0, 0, 0, 0, 0, 0, 0, 0, 0, 0, 0, 0, 0, 0, 0, 0, 0, 0, 0, 0, 0, 0, 0, 0, 0, 0, 0, 0, 0, 0, 0, 0, 0, 0, 0, 0, 0, 0, 0, 0, 0, 0, 0, 0, 0, 0, 0, 0, 0, 0, 0, 0, 0, 0, 0, 0, 0, 0, 0, 0, 0, 0, 0, 0, 0, 0, 0, 0, 0, 0, 0, 0, 0, 0, 0, 0, 0, 0, 0, 0, 0, 0, 0, 0, 0, 0, 0, 0, 0, 0, 0, 0, 0, 0, 0, 0, 0, 0, 0, 0, 0, 0, 0, 0, 0, 0, 0, 0, 0, 0, 0, 0, 0, 0, 0, 0, 0, 0, 0, 0, 0, 0, 0, 0, 0, 0, 0, 0, 0, 0, 0, 0, 0, 0, 0, 0, 0, 0, 0, 0, 0, 0, 0, 0, 0, 0, 0, 0, 0, 0, 0, 0, 0, 0, 0, 0, 0, 0, 0, 0, 0, 0, 0, 0, 0, 0, 0, 0, 0, 0, 0, 0, 0, 0, 0, 0, 0, 0, 0, 0, 0, 0, 0, 0, 0, 84, 53, 30, 141]
def tDb_2 : List UInt8 := [2, 2, 0, 0, 0, 0, 0, 0, 0, 0, 0, 0, 0, 0, 0, 0, 0, 0, 0, 0, 0, 0, 0, 0, 0, 0, 0, 0, 0, 0, 0, 0, 0, 0, 0, 0, 0, 0, 0, 0, 0, 0, 0, 0, 0, 0, 0, 0, 0, 0, 0, 0, 0, 0, 0, 0, 0, 0, 0, 0, 0, 0, 0, 0, 0, 0, 0, 0, 0, 0, 0, 0, 0, 0, 0, 0, 0, 0, 0, 0, 0, 0, 0, 0, 0, 0, 0, 0, 0, 0, 0, 0, 0, 0, 0, 0, 0, 0, 0, 0, 0, 0, 0, 0, 0, 0, 0, 0, 0, 0, 0, 0, 0, 0, 0, 0, 0, 0, 0, 0, 0, 0, 0, 0, 0, 0, 0, 0, 0, 0, 0, 0, 0, 0, 0, 0, 0, 0, 0, 0, 0, 0, 0, 0, 0, 0, 0, 0, 0, 0, 0, 0, 0, 0, 0, 0, 0, 0, 0, 0, 0, 0, 0, 0, 0, 0, 0, 0, 0, 0, 0, 0, 0, 0, 0, 0, 0, 0, 0, 0, 0, 0, 0, 0, 0, 0, 0, 0, 0, 0, 0, 0, 0, 0, 0, 0, 0, 0, 0, 0, 0, 0, 0, 0, 0, 0, 0, 0, 0, 0, 0, 0, 0, 0, 0, 0, 0, 0, 0, 0, 0, 0, 0, 0, 0, 0, 0, 0, 0, 0, 0, 0, 0, 0, 0, 0, 0, 0, 0, 0, 0, 0, 0, 0, 0, 0, 0, 0, 0, 0, 0, 0, 51, 118, 164, 63]
def tDb_3 : List UInt8 := [0, 0, 0, 0, 0, 0, 0, 0, 0, 0, 0, 0, 0, 0, 0, 0, 0, 0, 0, 0, 0, 0, 0, 0, 0, 0, 0, 0, 0, 0, 0, 0, 0, 0, 0, 0, 0, 0, 0, 0, 0, 0, 0, 0, 0, 0, 0, 0, 0, 0, 0, 0, 0, 0, 0, 0, 0, 0, 0, 0, 0, 0, 0, 0, 0, 0, 0, 0, 0, 0, 0, 0, 0, 0, 0, 0, 0, 0, 0, 0, 0, 0, 0, 0, 0, 0, 0, 0, 0, 0, 0, 0, 0, 0, 0, 0, 0, 0, 0, 0, 0, 0, 0, 0, 0, 0, 0, 0, 0, 0, 0, 0, 0, 0, 0, 0, 0, 0, 0, 0, 0, 0, 0, 0, 0, 0, 0, 0, 0, 0, 0, 0, 0, 0, 0, 0, 0, 0, 0, 0, 0, 0, 0, 0, 0, 0, 0, 0, 0, 0, 0, 0, 0, 0, 0, 0, 0, 0, 0, 0, 0, 0, 0, 0, 0, 0, 0, 0, 0, 0, 0, 0, 0, 0, 0, 0, 0, 0, 0, 0, 0, 0, 0, 0, 0, 0, 0, 0, 0, 0, 0, 0, 0, 0, 0, 0, 0, 0, 0, 0, 0, 0, 0, 0, 0, 0, 0, 0, 0, 0, 0, 0, 0, 0, 0, 0, 0, 0, 0, 0, 0, 0, 0, 0, 0, 0, 0, 0, 0, 0, 0, 0, 0, 0, 0, 0, 0, 0, 0, 0, 0, 0, 0, 0, 0, 0, 0, 0, 0, 0, 0, 0, 0, 0, 0, 0]
def tDb_4 : List UInt8 := [1, 0, 0, 0, 0, 0, 0, 0, 0, 24, 0, 2, 0, 0, 0, 0, 0, 3, 0, 0, 0, 0, 0, 4, 0, 0, 0, 0, 0, 6, 0, 0, 0, 0, 0, 0, 0, 0, 0, 0, 0, 0, 0, 0, 0, 0, 0, 0, 0, 0, 0, 0, 0, 0, 0, 0, 0, 0, 0, 0, 0, 0, 0, 0, 0, 0, 0, 0, 0, 0, 0, 0, 0, 0, 0, 0, 0, 0, 0, 0, 0, 0, 0, 0, 0, 0, 0, 0, 0, 0, 0, 0, 0, 0, 0, 0, 0, 0, 0, 0, 0, 0, 0, 0, 0, 0, 0, 0, 0, 0, 0, 0, 0, 0, 0, 0, 0, 0, 0, 0, 0, 0, 0, 0, 0, 0, 0, 0, 0, 0, 0, 0, 0, 0, 0, 0, 0, 0, 0, 0, 0, 0, 0, 0, 0, 0, 0, 0, 0, 0, 0, 0, 0, 0, 0, 0, 0, 0, 0, 0, 0, 0, 0, 0, 0, 0, 0, 0, 0, 0, 0, 0, 0, 0, 0, 0, 0, 0, 0, 0, 0, 0, 0, 0, 0, 0, 0, 0, 0, 0, 0, 0, 0, 0, 0, 0, 0, 0, 0, 0, 0, 0, 0, 0, 0, 0, 0, 0, 0, 0, 0, 0, 0, 0, 0, 0, 0, 0, 0, 0, 0, 0, 0, 0, 0, 0, 0, 0, 0, 0, 0, 0, 0, 0, 0, 0, 0, 0, 0, 0, 0, 0, 0, 0, 0, 0, 0, 0, 0, 0, 0, 0, 40, 221, 117, 237]
def tDb_5 : List UInt8 := [2, 3, 0, 0, 0, 0, 0, 0, 0, 8, 0, 2, 98, 0, 8, 5, 0, 0, 0, 0, 0, 0, 0, 0, 0, 0, 0, 0, 0, 0, 0, 0, 0, 0, 0, 0, 0, 0, 0, 0, 0, 0, 0, 0, 0, 0, 0, 0, 0, 0, 0, 0, 0, 0, 0, 0, 0, 0, 0, 0, 0, 0, 0, 0, 0, 0, 0, 0, 0, 0, 0, 0, 0, 0, 0, 0, 0, 0, 0, 0, 0, 0, 0, 0, 0, 0, 0, 0, 0, 0, 0, 0, 0, 0, 0, 0, 0, 0, 0, 0, 0, 0, 0, 0, 0, 0, 0, 0, 0, 0, 0, 0, 0, 0, 0, 0, 0, 0, 0, 0, 0, 0, 0, 0, 0, 0, 0, 0, 0, 0, 0, 0, 0, 0, 0, 0, 0, 0, 0, 0, 0, 0, 0, 0, 0, 0, 0, 0, 0, 0, 0, 0, 0, 0, 0, 0, 0, 0, 0, 0, 0, 0, 0, 0, 0, 0, 0, 0, 0, 0, 0, 0, 0, 0, 0, 0, 0, 0, 0, 0, 0, 0, 0, 0, 0, 0, 0, 0, 0, 0, 0, 0, 0, 0, 0, 0, 0, 0, 0, 0, 0, 0, 0, 0, 0, 0, 0, 0, 0, 0, 0, 0, 0, 0, 0, 0, 0, 0, 0, 0, 0, 0, 0, 0, 0, 0, 0, 0, 0, 0, 0, 0, 0, 0, 0, 0, 0, 0, 0, 0, 0, 0, 0, 0, 0, 0, 0, 0, 0, 0, 0, 0, 149, 192, 53, 151]
def tDb_6 : List UInt8 := [5, 4, 0, 0, 0, 0, 0, 0, 0, 4, 0, 2, 0, 0, 0, 0, 0, 0, 0, 0, 0, 0, 0, 0, 0, 0, 0, 0, 0, 0, 0, 0, 0, 0, 0, 0, 0, 0, 0, 0, 0, 0, 0, 0, 0, 0, 0, 0, 0, 0, 0, 0, 0, 0, 0, 0, 0, 0, 0, 0, 0, 0, 0, 0, 0, 0, 0, 0, 0, 0, 0, 0, 0, 0, 0, 0, 0, 0, 0, 0, 0, 0, 0, 0, 0, 0, 0, 0, 0, 0, 0, 0, 0, 0, 0, 0, 0, 0, 0, 0, 0, 0, 0, 0, 0, 0, 0, 0, 0, 0, 0, 0, 0, 0, 0, 0, 0, 0, 0, 0, 0, 0, 0, 0, 0, 0, 0, 0, 0, 0, 0, 0, 0, 0, 0, 0, 0, 0, 0, 0, 0, 0, 0, 0, 0, 0, 0, 0, 0, 0, 0, 0, 0, 0, 0, 0, 0, 0, 0, 0, 0, 0, 0, 0, 0, 0, 0, 0, 0, 0, 0, 0, 0, 0, 0, 0, 0, 0, 0, 0, 0, 0, 0, 0, 0, 0, 0, 0, 0, 0, 0, 0, 0, 0, 0, 0, 0, 0, 0, 0, 0, 0, 0, 0, 0, 0, 0, 0, 0, 0, 0, 0, 0, 0, 0, 0, 0, 0, 0, 0, 0, 0, 0, 0, 0, 0, 0, 0, 0, 0, 0, 0, 0, 0, 0, 0, 0, 0, 0, 0, 0, 0, 0, 0, 0, 0, 0, 0, 0, 0, 0, 0, 139, 187, 243, 78]
def tDb_7 : List UInt8 := [2, 5, 0, 0, 0, 0, 0, 0, 0, 5, 0, 2, 107, 0, 2, 49, 0, 0, 0, 0, 0, 0, 0, 0, 0, 0, 0, 0, 0, 0, 0, 0, 0, 0, 0, 0, 0, 0, 0, 0, 0, 0, 0, 0, 0, 0, 0, 0, 0, 0, 0, 0, 0, 0, 0, 0, 0, 0, 0, 0, 0, 0, 0, 0, 0, 0, 0, 0, 0, 0, 0, 0, 0, 0, 0, 0, 0, 0, 0, 0, 0, 0, 0, 0, 0, 0, 0, 0, 0, 0, 0, 0, 0, 0, 0, 0, 0, 0, 0, 0, 0, 0, 0, 0, 0, 0, 0, 0, 0, 0, 0, 0, 0, 0, 0, 0, 0, 0, 0, 0, 0, 0, 0, 0, 0, 0, 0, 0, 0, 0, 0, 0, 0, 0, 0, 0, 0, 0, 0, 0, 0, 0, 0, 0, 0, 0, 0, 0, 0, 0, 0, 0, 0, 0, 0, 0, 0, 0, 0, 0, 0, 0, 0, 0, 0, 0, 0, 0, 0, 0, 0, 0, 0, 0, 0, 0, 0, 0, 0, 0, 0, 0, 0, 0, 0, 0, 0, 0, 0, 0, 0, 0, 0, 0, 0, 0, 0, 0, 0, 0, 0, 0, 0, 0, 0, 0, 0, 0, 0, 0, 0, 0, 0, 0, 0, 0, 0, 0, 0, 0, 0, 0, 0, 0, 0, 0, 0, 0, 0, 0, 0, 0, 0, 0, 0, 0, 0, 0, 0, 0, 0, 0, 0, 0, 0, 0, 0, 0, 0, 0, 0, 0, 209, 38, 89, 125]

def mDb_0 : Memo := ⟨42, [.ptr 0 0], 1, [(0, .cells ⟨[.int .i64 (.ofNat 60), .bool true, .bool false, .int .i64 (.ofNat 0), .nils, .nils, .nilc], 145, false, 0, false⟩)],
  .tup [.ptr 168 0, .int .i64 (.ofNat 0)], 169, [(0, .cells ⟨[.int .i64 (.ofNat 60), .bool true, .bool false, .int .i64 (.ofNat 0), .sl 143 0 3 (.op 1), .sl 50 0 3 (.op 1), .ch 131], 145, false, 0, false⟩),
  (50, .cells ⟨[.str tDb_0, .str tDb_1, .str tDb_2], 9, true, 0, false⟩),
  (131, .chan 3 [] 2 2),
  (143, .cells ⟨[.str tDb_0, .str tDb_1, .str tDb_2], 9, true, 0, false⟩),
  (166, .cells ⟨[.nils, .nils, .nilm], 357, false, 0, false⟩),
  (167, .chan 1 [] 0 0),
  (168, .cells ⟨[.ptr 0 0, .ptr 166 0, .int .i64 (.ofNat 1), .int .i64 (.ofNat 2), .int .i64 (.ofNat 0), .int .i64 (.ofNat 3), .nils, .bool true, .ch 167], 98, false, 0, false⟩)]⟩
theorem mDb_0_ok : memoOk mDb_0 ((fns (prims K0 [] []) 100000).call mDb_0.f mDb_0.args (memoSt mDb_0)) = true := by kernel_rfl

def mDb_1 : Memo := ⟨123, [.ptr 179 0, .sl 181 0 1 (.known 1)], 182, [(0, .cells ⟨[.int .i64 (.ofNat 60), .bool true, .bool false, .int .i64 (.ofNat 0), .sl 143 0 3 (.op 1), .sl 50 0 3 (.op 1), .ch 131], 145, false, 0, false⟩),
  (50, .cells ⟨[.str tDb_0, .str tDb_1, .str tDb_2], 9, true, 0, false⟩),
  (131, .chan 3 [] 2 2),
  (143, .cells ⟨[.str tDb_0, .str tDb_1, .str tDb_2], 9, true, 0, false⟩),
  (166, .cells ⟨[.nils, .nils, .nilm], 357, false, 0, false⟩),
  (174, .cells ⟨[.ptr 0 0, .ptr 166 0, .int .i64 (.ofNat 3), .int .i64 (.ofNat 3), .int .i64 (.ofNat 2), .mp 175, .mp 176, .mp 177, .ptr 178 0], 191, false, 0, false⟩),
  (175, .map [] 0),
  (176, .map [] 0),
  (177, .map [] 0),
  (178, .cells ⟨[.nils], 274, false, 0, false⟩),
  (179, .cells ⟨[.ptr 174 0, .int .i64 (.ofNat 2), .int .i64 (.ofNat 0)], 281, false, 0, false⟩),
  (181, .cells ⟨[.str [98]], 9, false, 0, false⟩)],
  .int .i64 (.ofNat 0), 346, [(0, .cells ⟨[.int .i64 (.ofNat 60), .bool true, .bool false, .int .i64 (.ofNat 0), .sl 326 0 5 (.op 1), .sl 324 0 5 (.op 1), .ch 131], 145, false, 0, false⟩),
  (131, .chan 3 [] 2 2),
  (166, .cells ⟨[.nils, .nils, .nilm], 357, false, 0, false⟩),
  (174, .cells ⟨[.ptr 0 0, .ptr 166 0, .int .i64 (.ofNat 3), .int .i64 (.ofNat 5), .int .i64 (.ofNat 2), .mp 175, .mp 176, .mp 177, .ptr 178 0], 191, false, 0, false⟩),
  (175, .map [(.int .i64 (.ofNat 3), .agg [.int .i64 (.ofNat 2), .int .i64 (.ofNat 0), .str []], 0), (.int .i64 (.ofNat 4), .agg [.int .i64 (.ofNat 2), .int .i64 (.ofNat 0), .str [2, 98, 0, 8, 3, 0, 0, 0]], 1)] 2),
  (176, .map [(.int .i64 (.ofNat 2), .agg [], 0)] 1),
  (177, .map [] 0),
  (178, .cells ⟨[.nils], 274, false, 0, false⟩),
  (179, .cells ⟨[.ptr 174 0, .int .i64 (.ofNat 4), .int .i64 (.ofNat 0)], 281, false, 0, false⟩),
  (181, .cells ⟨[.str [98]], 9, false, 0, false⟩),
  (324, .cells ⟨[.str tDb_0, .str tDb_1, .str tDb_2, .str tDb_3, .str tDb_3], 9, true, 0, false⟩),
  (326, .cells ⟨[.str tDb_0, .str tDb_1, .str tDb_2, .str tDb_3, .str tDb_3], 9, true, 0, false⟩)]⟩
theorem mDb_1_ok : memoOk mDb_1 ((fns (prims K0 [] []) 100000).call mDb_1.f mDb_1.args (memoSt mDb_1)) = true := by kernel_rfl

def mDb_2 : Memo := ⟨99, [.ptr 179 0, .str [98], .str [107], .str [49]], 346, [(0, .cells ⟨[.int .i64 (.ofNat 60), .bool true, .bool false, .int .i64 (.ofNat 0), .sl 326 0 5 (.op 1), .sl 324 0 5 (.op 1), .ch 131], 145, false, 0, false⟩),
  (131, .chan 3 [] 2 2),
  (166, .cells ⟨[.nils, .nils, .nilm], 357, false, 0, false⟩),
  (174, .cells ⟨[.ptr 0 0, .ptr 166 0, .int .i64 (.ofNat 3), .int .i64 (.ofNat 5), .int .i64 (.ofNat 2), .mp 175, .mp 176, .mp 177, .ptr 178 0], 191, false, 0, false⟩),
  (175, .map [(.int .i64 (.ofNat 3), .agg [.int .i64 (.ofNat 2), .int .i64 (.ofNat 0), .str []], 0), (.int .i64 (.ofNat 4), .agg [.int .i64 (.ofNat 2), .int .i64 (.ofNat 0), .str [2, 98, 0, 8, 3, 0, 0, 0]], 1)] 2),
  (176, .map [(.int .i64 (.ofNat 2), .agg [], 0)] 1),
  (177, .map [] 0),
  (178, .cells ⟨[.nils], 274, false, 0, false⟩),
  (179, .cells ⟨[.ptr 174 0, .int .i64 (.ofNat 4), .int .i64 (.ofNat 0)], 281, false, 0, false⟩),
  (324, .cells ⟨[.str tDb_0, .str tDb_1, .str tDb_2, .str tDb_3, .str tDb_3], 9, true, 0, false⟩),
  (326, .cells ⟨[.str tDb_0, .str tDb_1, .str tDb_2, .str tDb_3, .str tDb_3], 9, true, 0, false⟩)],
  .int .i64 (.ofNat 0), 587, [(0, .cells ⟨[.int .i64 (.ofNat 60), .bool true, .bool false, .int .i64 (.ofNat 0), .sl 463 0 6 (.op 1), .sl 461 0 6 (.op 1), .ch 131], 145, false, 0, false⟩),
  (131, .chan 3 [] 2 2),
  (166, .cells ⟨[.nils, .nils, .nilm], 357, false, 0, false⟩),
  (174, .cells ⟨[.ptr 0 0, .ptr 166 0, .int .i64 (.ofNat 3), .int .i64 (.ofNat 6), .int .i64 (.ofNat 2), .mp 175, .mp 176, .mp 177, .ptr 178 0], 191, false, 0, false⟩),
  (175, .map [(.int .i64 (.ofNat 5), .agg [.int .i64 (.ofNat 2), .int .i64 (.ofNat 0), .str [2, 107, 0, 2, 49]], 2), (.int .i64 (.ofNat 3), .agg [.int .i64 (.ofNat 2), .int .i64 (.ofNat 0), .str [2, 98, 0, 8, 5, 0, 0, 0]], 3)] 4),
  (176, .map [(.int .i64 (.ofNat 2), .agg [], 0)] 1),
  (177, .map [(.int .i64 (.ofNat 4), .agg [], 1)] 2),
  (178, .cells ⟨[.sl 481 0 1 (.op 1)], 274, false, 0, false⟩),
  (179, .cells ⟨[.ptr 174 0, .int .i64 (.ofNat 3), .int .i64 (.ofNat 0)], 281, false, 0, false⟩),
  (461, .cells ⟨[.str tDb_0, .str tDb_1, .str tDb_2, .str tDb_3, .str tDb_3, .str tDb_3], 9, true, 0, false⟩),
  (463, .cells ⟨[.str tDb_0, .str tDb_1, .str tDb_2, .str tDb_3, .str tDb_3, .str tDb_3], 9, true, 0, false⟩),
  (481, .cells ⟨[.int .i64 (.ofNat 4)], 3, true, 0, false⟩)]⟩
theorem mDb_2_ok : memoOk mDb_2 ((fns (prims K0 [] []) 100000).call mDb_2.f mDb_2.args (memoSt mDb_2)) = true := by kernel_rfl

def mDb_3 : Memo := ⟨51, [.ptr 180 0], 600, [(0, .cells ⟨[.int .i64 (.ofNat 60), .bool true, .bool false, .int .i64 (.ofNat 0), .sl 463 0 6 (.op 1), .sl 461 0 6 (.op 1), .ch 131], 145, false, 0, false⟩),
  (131, .chan 3 [] 2 2),
  (166, .cells ⟨[.nils, .nils, .mp 597], 357, false, 0, false⟩),
  (167, .chan 1 [.agg []] 1 0),
  (168, .cells ⟨[.ptr 0 0, .ptr 166 0, .int .i64 (.ofNat 1), .int .i64 (.ofNat 2), .int .i64 (.ofNat 0), .int .i64 (.ofNat 3), .nils, .bool true, .ch 167], 98, false, 0, false⟩),
  (174, .cells ⟨[.ptr 0 0, .ptr 166 0, .int .i64 (.ofNat 3), .int .i64 (.ofNat 6), .int .i64 (.ofNat 2), .mp 175, .mp 176, .mp 177, .ptr 178 0], 191, false, 0, false⟩),
  (175, .map [(.int .i64 (.ofNat 5), .agg [.int .i64 (.ofNat 2), .int .i64 (.ofNat 0), .str [2, 107, 0, 2, 49]], 2), (.int .i64 (.ofNat 3), .agg [.int .i64 (.ofNat 2), .int .i64 (.ofNat 0), .str [2, 98, 0, 8, 5, 0, 0, 0]], 3)] 4),
  (176, .map [(.int .i64 (.ofNat 2), .agg [], 0)] 1),
  (177, .map [(.int .i64 (.ofNat 4), .agg [], 1)] 2),
  (178, .cells ⟨[.sl 481 0 1 (.op 1)], 274, false, 0, false⟩),
  (179, .cells ⟨[.ptr 174 0, .int .i64 (.ofNat 3), .int .i64 (.ofNat 0)], 281, false, 0, false⟩),
  (180, .cells ⟨[.ptr 179 0, .ptr 168 0, .ptr 174 0, .bool true], 243, false, 0, false⟩),
  (461, .cells ⟨[.str tDb_0, .str tDb_1, .str tDb_2, .str tDb_3, .str tDb_3, .str tDb_3], 9, true, 0, false⟩),
  (463, .cells ⟨[.str tDb_0, .str tDb_1, .str tDb_2, .str tDb_3, .str tDb_3, .str tDb_3], 9, true, 0, false⟩),
  (481, .cells ⟨[.int .i64 (.ofNat 4)], 3, true, 0, false⟩),
  (597, .map [(.int .i64 (.ofNat 1), .int .i64 (.ofNat 1), 0)] 1)],
  .int .i64 (.ofNat 0), 867, [(0, .cells ⟨[.int .i64 (.ofNat 60), .bool true, .bool false, .int .i64 (.ofNat 0), .sl 857 0 6 (.op 1), .sl 461 0 6 (.op 1), .ch 131], 145, false, 0, false⟩),
  (131, .chan 3 [] 6 6),
  (166, .cells ⟨[.nils, .sl 798 0 1 (.op 2), .mp 597], 357, false, 0, false⟩),
  (167, .chan 1 [] 1 1),
  (168, .cells ⟨[.ptr 0 0, .ptr 166 0, .int .i64 (.ofNat 2), .int .i64 (.ofNat 3), .int .i64 (.ofNat 4), .int .i64 (.ofNat 6), .sl 643 0 1 (.op 1), .bool true, .ch 167], 98, false, 0, false⟩),
  (174, .cells ⟨[.ptr 0 0, .ptr 166 0, .int .i64 (.ofNat 6), .int .i64 (.ofNat 6), .int .i64 (.ofNat 2), .mp 803, .mp 804, .mp 805, .ptr 806 0], 191, false, 0, false⟩),
  (175, .map [(.int .i64 (.ofNat 5), .agg [.int .i64 (.ofNat 2), .int .i64 (.ofNat 0), .str [2, 107, 0, 2, 49]], 2), (.int .i64 (.ofNat 3), .agg [.int .i64 (.ofNat 2), .int .i64 (.ofNat 0), .str [2, 98, 0, 8, 5, 0, 0, 0]], 3), (.int .i64 (.ofNat 4), .agg [.int .i64 (.ofNat 5), .int .i64 (.ofNat 0), .str [2, 0, 0, 0]], 4)] 5),
  (176, .map [(.int .i64 (.ofNat 2), .agg [], 0)] 1),
  (177, .map [] 2),
  (178, .cells ⟨[.sl 481 0 0 (.op 1)], 274, false, 0, false⟩),
  (179, .cells ⟨[.ptr 174 0, .int .i64 (.ofNat 3), .int .i64 (.ofNat 2)], 281, false, 0, false⟩),
  (180, .cells ⟨[.ptr 179 0, .ptr 168 0, .ptr 174 0, .bool false], 243, false, 0, false⟩),
  (461, .cells ⟨[.str tDb_4, .str tDb_1, .str tDb_2, .str tDb_5, .str tDb_6, .str tDb_7], 9, true, 0, false⟩),
  (463, .cells ⟨[.str tDb_0, .str tDb_1, .str tDb_2, .str tDb_3, .str tDb_3, .str tDb_3], 9, true, 0, false⟩),
  (481, .cells ⟨[.int .i64 (.ofNat 4)], 3, true, 0, false⟩),
  (597, .map [(.int .i64 (.ofNat 1), .int .i64 (.ofNat 1), 0)] 1),
  (643, .cells ⟨[.int .i64 (.ofNat 4)], 3, true, 0, false⟩),
  (798, .cells ⟨[.int .i64 (.ofNat 2), .int .i64 (.ofNat 2)], 368, true, 0, false⟩),
  (803, .map [] 0),
  (804, .map [] 0),
  (805, .map [] 0),
  (806, .cells ⟨[.nils], 274, false, 0, false⟩),
  (857, .cells ⟨[.str tDb_4, .str tDb_1, .str tDb_2, .str tDb_5, .str tDb_6, .str tDb_7], 9, true, 0, false⟩)]⟩
theorem mDb_3_ok : memoOk mDb_3 ((fns (prims K0 [] []) 100000).call mDb_3.f mDb_3.args (memoSt mDb_3)) = true := by kernel_rfl

def msDb : List Memo := [mDb_0, mDb_1, mDb_2, mDb_3]
theorem memosDb : MemosOk msDb := (MemosOk.cons (soundAll aloneNil memosNil 100000) mDb_0_ok (MemosOk.cons (soundAll aloneNil memosNil 100000) mDb_1_ok (MemosOk.cons (soundAll aloneNil memosNil 100000) mDb_2_ok (MemosOk.cons (soundAll aloneNil memosNil 100000) mDb_3_ok memosNil))))
end Go.Proofs.YtjmneomkkcbleaaGreatDoor
