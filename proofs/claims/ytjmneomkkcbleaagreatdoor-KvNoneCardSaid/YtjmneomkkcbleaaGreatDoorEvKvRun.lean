/-
  The runs for the law arboretumlaw25.KvNone.
-/
import Derived.Test.YtjmneomkkcbleaaGreatDoorEvClosed
import Derived.Test.YtjmneomkkcbleaaGreatDoorEvKvMemo
namespace Go.Proofs.YtjmneomkkcbleaaGreatDoor
open Go.Ev Go.RowKit
theorem alive25 : okB ((fns (prims K0 [] msKv) 100000).call 38 [] ⟨.nil, 0⟩) = true := by kernel_rfl

theorem kvGet : valB ((fns (prims K0 [] []) 100000).call 39 [.nilp, .str [107]] ⟨.nil, 0⟩) (.tup [.agg [.int .i64 0, .str [], .int .i64 0], .int .i64 1]) = true := by kernel_rfl
theorem kvDo : valB ((fns (prims K0 [] []) 100000).call 40 [.nilp, .agg [.int .i64 5, .int .i64 0, .int .i64 0, .str [], .str [], .str []]] ⟨.nil, 0⟩) (.tup [.agg [.int .i64 0, .str [], .int .i64 0], .int .i64 1]) = true := by kernel_rfl
theorem kvInit : valB ((fns (prims K0 [] []) 100000).call 41 [.nilp] ⟨.nil, 0⟩) (.int .i64 1) = true := by kernel_rfl

theorem call_kvNone (k s q : Int) (a b c : ByteArray) (w : World) (ha : a.size ≤ 9223372036854775807) (hb : b.size ≤ 9223372036854775807) (hc : c.size ≤ 9223372036854775807) :
    Calls Tryz.prog 7 #[.agg #[.int .i64 k, .int .i64 s, .int .i64 q, .string a, .string b, .string c]] w (TrueB w) :=
  kv_walk (closed_true (soundAll aloneNil memosKv 100000) alive25)
    (fun W => by simpa [concL, conc] using closed_val (soundAll aloneNil memosNil 100000) kvGet (by simp [OnL, On]) (by simp [OnL, On]) W)
    (fun W => by simpa [concL, conc] using closed_val (soundAll aloneNil memosNil 100000) kvDo (by simp [OnL, On]) (by simp [OnL, On]) W)
    (fun W => by simpa [concL, conc] using closed_val (soundAll aloneNil memosNil 100000) kvInit (by simp [OnL, On]) (by simp [OnL, On]) W) k s q a b c w ha hb hc
end Go.Proofs.YtjmneomkkcbleaaGreatDoor
