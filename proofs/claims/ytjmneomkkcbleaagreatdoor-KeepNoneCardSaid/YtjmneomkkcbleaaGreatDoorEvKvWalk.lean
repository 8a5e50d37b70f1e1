/-
  The law arboretumlaw25.KvNone, walked over what it calls.
-/
import Derived.Test.YtjmneomkkcbleaaGreatDoorEvSmall
namespace Go.Ev
open Go.Proofs Go.RowKit

def TrueB (w : World) (e : Ending) (w' : World) : Prop := e = .returned (.bool true) ∧ Below w.heap.size w w'
def Gives0 (v : Value) (w : World) (e : Ending) (w' : World) : Prop := e = .returned v ∧ Below w.heap.size w w'

theorem bel_then {w a c : World} (h : Below w.heap.size w a) (k : Below a.heap.size a c) : Below w.heap.size w c := h.trans (k.mono h.size)
theorem bel_alloc {w a : World} (h : Below w.heap.size w a) (o : Obj) : Below w.heap.size w (a.alloc o) := h.alloc h.size o

theorem bcell {W w1 : World} (hb : Below W.heap.size W w1) : (∀ b o, b < W.heap.size → w1.cell? ⟨b, o, none⟩ = W.cell? ⟨b, o, none⟩) ∧ (∀ b o, b < W.heap.size → w1.frozen? ⟨b, o, none⟩ = W.frozen? ⟨b, o, none⟩) :=
  ⟨fun b o h => hb.cell (p := ⟨b, o, none⟩) h, fun b o h => hb.frozen (p := ⟨b, o, none⟩) h⟩

set_option maxHeartbeats 4000000 in
theorem kv_walk (hAl : ∀ W, Calls Tryz.prog 38 #[] W (TrueB W))
    (hGet : ∀ W, Calls Tryz.prog 39 #[.pointer none, .string ⟨#[107]⟩] W (Gives0 (.tuple #[.agg #[.int .i64 0, .string ⟨#[]⟩, .int .i64 0], .int .i64 1]) W))
    (hDo : ∀ W, Calls Tryz.prog 40 #[.pointer none, .agg #[.int .i64 5, .int .i64 0, .int .i64 0, .string ⟨#[]⟩, .string ⟨#[]⟩, .string ⟨#[]⟩]] W (Gives0 (.tuple #[.agg #[.int .i64 0, .string ⟨#[]⟩, .int .i64 0], .int .i64 1]) W))
    (hIn : ∀ W, Calls Tryz.prog 41 #[.pointer none] W (Gives0 (.int .i64 1) W))
    (k s q : Int) (a b c : ByteArray) (w : World) (ha : a.size ≤ 9223372036854775807) (hb : b.size ≤ 9223372036854775807) (hc : c.size ≤ 9223372036854775807) :
    Calls Tryz.prog 7 #[.agg #[.int .i64 k, .int .i64 s, .int .i64 q, .string a, .string b, .string c]] w (TrueB w) := by
  go_enter Tryz.func7, Tryz.ntmps7
  go_wp2_with (first
    | (go_at_call 37; refine (small_any _ _ _ _ _ _ _ ha hb hc).mono ?_; rintro e w1 ⟨⟨t, rfl⟩, hb1⟩)
    | (go_at_call 38; refine (hAl _).mono ?_; rintro e w2 ⟨rfl, hb2⟩; obtain ⟨hc2, hf2⟩ := bcell hb2; have hz2 := hb2.size; try simp at hz2)
    | (go_at_call 39; refine (hGet _).mono ?_; rintro e w3 ⟨rfl, hb3⟩)
    | (go_at_call 40; refine (hDo _).mono ?_; rintro e w4 ⟨rfl, hb4⟩)
    | (go_at_call 41; refine (hIn _).mono ?_; rintro e w5 ⟨rfl, hb5⟩; obtain ⟨hc5, hf5⟩ := bcell hb5; have hz5 := hb5.size; (try simp at hz5); have q0 : w5.cell? ⟨w4.heap.size, 0, none⟩ = some (.int .i64 0) := (hc5 _ _ (by omega)).trans ((hc2 _ _ (by simp)).trans (World.cell?_alloc_at _ _ _ 0 rfl)); have q1 : w5.cell? ⟨w4.heap.size, 1, none⟩ = some (.string ⟨#[]⟩) := (hc5 _ _ (by omega)).trans ((hc2 _ _ (by simp)).trans (World.cell?_alloc_at _ _ _ 1 rfl)); have q2 : w5.cell? ⟨w4.heap.size, 2, none⟩ = some (.int .i64 0) := (hc5 _ _ (by omega)).trans ((hc2 _ _ (by simp)).trans (World.cell?_alloc_at _ _ _ 2 rfl)); clear hc2 hf2 hc5 hf5))
  · go_ret
    exact ⟨rfl, bel_then (bel_then (bel_alloc (Below.refl _ _) _) hb1) hb2⟩
  · go_ret
    exact ⟨rfl, bel_then (bel_then (bel_alloc (bel_then (bel_alloc (bel_then (bel_then (bel_alloc (Below.refl _ _) _) hb1) hb3) _) hb4) _) hb2) hb5⟩
end Go.Ev
