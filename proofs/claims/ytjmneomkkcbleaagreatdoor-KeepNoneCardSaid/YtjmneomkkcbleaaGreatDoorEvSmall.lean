/-
  Is an operation short enough: some truth.
-/
import Derived.Test.YtjmneomkkcbleaaGreatDoorProg
import Derived.WalkKit
import Derived.Outline
import Derived.Lib.Hide
namespace Go.Ev
open Go.Proofs Go.RowKit

def SomeBool (w : World) (e : Ending) (w' : World) : Prop := (∃ t, e = .returned (.bool t)) ∧ Below w.heap.size w w'

set_option maxHeartbeats 1000000 in
theorem small_any (k s q : Int) (a b c : ByteArray) (w : World) (ha : a.size ≤ 9223372036854775807) (hb : b.size ≤ 9223372036854775807) (hc : c.size ≤ 9223372036854775807) :
    Calls Tryz.prog 37 #[.agg #[.int .i64 k, .int .i64 s, .int .i64 q, .string a, .string b, .string c]] w (SomeBool w) := by
  go_enter Tryz.func37, Tryz.ntmps37
  go_wp2
  all_goals (go_ret; exact ⟨⟨_, rfl⟩, (Below.refl _ _).alloc (Nat.le_refl _) _⟩)
end Go.Ev
