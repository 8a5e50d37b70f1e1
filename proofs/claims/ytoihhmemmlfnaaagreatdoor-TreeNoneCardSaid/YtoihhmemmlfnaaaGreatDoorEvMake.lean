/-
  A page is made, whatever it is, by the pager that Begin(30) leaves: it is refused, or the pager has it, as it is, in its map.
-/
import Derived.Test.YtoihhmemmlfnaaaGreatDoorEvTreeSt
import Derived.Test.YtoihhmemmlfnaaaGreatDoorEvSeal
namespace Go.Ev
open Go.Proofs Go.RowKit Go.Proofs.YtoihhmemmlfnaaaGreatDoor

theorem load_box {B : World} {Fm : Nat → Option Obj} {q n : Nat} {T : TypeId} {vs : Array Value} {s : St} {w : World} (a : At34 B (fun i => if i = n then some (.cells vs T) else Fm i) q s w) (hB : rowB0 Tryz.prog T vs.size = true) :
    (Instr.loadAt T (.pointer (some ⟨n, 0, none⟩))).run Tryz.prog w = .ok (.agg vs) w := by
  refine load_at_row vs hB (fun j v hj => ?_)
  have h := a.frame (i := n) (o := .cells vs T) (by simp)
  rw [Nat.zero_add, Lib.cell_of_heap h]
  simpa using hj

theorem load_page {B : World} {Fm : Nat → Option Obj} {q n : Nat} {x y z : Value} {s : St} {w : World} (a : At34 B (fun i => if i = n then some (.cells #[x, y, z] 23) else Fm i) q s w) :
    (Instr.loadAt 23 (.pointer (some ⟨n, 0, none⟩))).run Tryz.prog w = .ok (.agg #[x, y, z]) w := load_box a (by kernel_rfl)

theorem page_cells {B : World} {Fm : Nat → Option Obj} {q n : Nat} {x y z : Value} {s : St} {w : World} (a : At34 B (fun i => if i = n then some (.cells #[x, y, z] 23) else Fm i) q s w) :
    w.cell? ⟨n, 0, none⟩ = some x ∧ w.cell? ⟨n, 1, none⟩ = some y ∧ w.cell? ⟨n, 2, none⟩ = some z := by
  have h := a.frame (i := n) (o := .cells #[x, y, z] 23) (by simp)
  exact ⟨by rw [Lib.cell_of_heap h]; rfl, by rw [Lib.cell_of_heap h]; rfl, by rw [Lib.cell_of_heap h]; rfl⟩

theorem At34.back {B : World} {Fm : Nat → Option Obj} {q : Nat} {o : Obj} {s s' : St} {w w' : World} (a : At34 B (fun i => if i = w.heap.size then some o else Fm i) q s w') (a0 : At34 B Fm q s' w) : At34 B Fm q s w' := by
  refine a.less fun i o' h => ?_
  have hi : i ≠ w.heap.size := by
    rintro rfl
    have h2 := a0.frame h
    simp at h2
  rw [if_neg hi]
  exact h

set_option maxHeartbeats 2000000 in
set_option maxRecDepth 100000 in
theorem make_any {B : World} {Fm : Nat → Option Obj} {q : Nat} {w : World} (a : At34 B Fm q S1 w) (kind next : Int) (body : ByteArray) :
    Calls Tryz.prog 14 #[.pointer (some ⟨q, 0, none⟩), .agg #[.int .i64 kind, .int .i64 next, .string body]] w fun e w' =>
      ∃ (i k : Int), e = .returned (.tuple #[.int .i64 i, .int .i64 k]) ∧ ((k ≠ 0 ∧ ∃ s, At34 B Fm q s w') ∨ (i = 3 ∧ k = 0 ∧ At34 B Fm q (S5 (.agg [.int .i64 kind, .int .i64 next, .str body.data.toList])) w')) := by
  have a1 := a.keep (.cells #[.int .i64 kind, .int .i64 next, .string body] 23)
  go_enter Tryz.func14, Tryz.ntmps14
  go_wp2_with (first
    | (go_at_call 30; refine (at_none a1).mono ?_; rintro e w2 ⟨rfl, a2⟩))
  obtain ⟨hc20, hc21, hc22⟩ := page_cells a2.drew
  go_region_with (first
    | (go_at_call 32; refine (at_next a2.drew).mono ?_; rintro e w3 ⟨rfl, a3⟩; obtain ⟨hc30, hc31, hc32⟩ := page_cells a3)
    | (go_at_call 31; refine (seal_any _ _ _ _ _).mono ?_; rintro e w4 ⟨⟨t, k, rfl⟩, hb4⟩; have a4 := a3.grow hb4))
  all_goals go_wp2_with (first
    | (go_at_call 33; refine (at_take a4).mono ?_; rintro e w5 ⟨rfl, a5⟩; obtain ⟨m7, w6, hc7, hdel, a6⟩ := at_delete (ty := 0) (ts := [3]) a5 was_row (show On _ (.int .i64 (.ofNat 3)) from trivial) was_del; replace hdel : (Builtin.delete_ #[70, 3] 0 #[.map (some m7), .int .i64 3]).run Tryz.prog w5 = .ok (.tuple #[]) w6 := hdel))
  all_goals first
    | (have hk : k ≠ 0 := by simpa using ‹(k != 0) = true›
       go_ret2
       exact ⟨_, _, rfl, .inl ⟨hk, _, a4.back a⟩⟩)
    | (obtain ⟨m5, w7, hc5, hupd, a7⟩ := at_update a6.drew made_row (show On _ (.int .i64 (.ofNat 3)) from trivial) (show On _ (.agg [.int .i64 kind, .int .i64 next, .str body.data.toList]) from ⟨trivial, trivial, trivial, trivial⟩) (made_upd _)
       have ev : conc (fun _ => ⟨0, 0⟩) (.agg [.int .i64 kind, .int .i64 next, .str body.data.toList]) = .agg #[.int .i64 kind, .int .i64 next, .string body] := by simp [conc, concL]
       rw [ev] at hupd
       replace hupd : (Instr.mapUpdate 83 (.map (some m5)) (.int .i64 3) (.agg #[.int .i64 kind, .int .i64 next, .string body])).run Tryz.prog w6.drew = .ok () w7 := hupd
       obtain ⟨hd0, hd1, hd2⟩ := page_cells a6.drew
       go_region)
  all_goals go_wp2
  all_goals (go_ret2; exact ⟨_, _, rfl, .inr ⟨rfl, rfl, a7.back a⟩⟩)
end Go.Ev
