/-
  tree.all: all of a tree is walked; tree.Count, tree.Height, tree.Pages.
-/
import Derived.Test.YtgfmhppkmogdhaaGreatDoorMBGwSeeDown
import Derived.Test.YtgfmhppkmogdhaaGreatDoorMBGvGrow
import Derived.Test.YtgfmhppkmogdhaaGreatDoorMBGwBeg2
import Derived.Test.YtgfmhppkmogdhaaGreatDoorMBGwPutT
set_option linter.unusedVariables false
set_option linter.unusedSimpArgs false
set_option linter.unusedVariables false
set_option linter.unusedSimpArgs false
namespace Go.Ev
open Go.Proofs Go.RowKit

section
variable {p most cnt : Nat} {c : Pc} {M : Store}

def AllP (p : Nat) (ci : List Int) (T ks : Int) (w : World) (e : Ending) (w' : World) : Prop :=
  ∃ b sb iv, e = .returned (.tuple #[ptrV b, .int .i64 0]) ∧ Blk w' b 153 #[ptrV p, iv, .map (some sb), .int .i64 T, .int .i64 ks] ∧ w'.ownsRow w.heap.size 3 1 iv ci.length (intsV (sortZs ci)) ∧ Below w.heap.size w w'

set_option maxHeartbeats 4000000 in
set_option maxRecDepth 100000 in
theorem all_ok (root : Int) (k : Nat) (ps : List Pair) (ci : List Int) (w : World) (h : PgOk w p c most M cnt) (hT : TreeAt M 2 k root [] none ps ci) (hsh : Short ps) (hnd : ci.Nodup) (hfew : ci.length ≤ 100000) (hk : k < 30) (hps : ps.length ≤ 90000) :
    Calls Tryz.prog 108 #[ptrV p, .int .i64 root] w (AllP p ci ((k : Int) + 1) (ps.length : Int) w) := by
  have hMM : ∀ (t : TypeId) (W : World), (Instr.makeMap t none).run Tryz.prog W = .ok (.map (some W.heap.size)) (W.alloc (.map #[] 0)) := fun t W => run_makeMap t W
  obtain ⟨w1, hw1⟩ : ∃ w1, w.alloc (.map #[] 0) = w1 := ⟨_, rfl⟩
  obtain ⟨w2, hw2⟩ : ∃ w2, w1.alloc (.cells #[ptrV p, .slice none 0 0, .map (some w.heap.size), .int .i64 0, .int .i64 0] 153) = w2 := ⟨_, rfl⟩
  have hz1 : w1.heap.size = w.heap.size + 1 := by rw [← hw1]; simp
  have hb2 : Below w.heap.size w w2 := by rw [← hw2, ← hw1]; exact ((Below.refl _ _).alloc (Nat.le_refl _) _).alloc (by simp) _
  have hS : SeeAt w2 p w1.heap.size w.heap.size (.slice none 0 0) [] [] 0 0 0 := ⟨by rw [← hw2]; exact Blk.new _ _ _, World.ownsRow_nil _ _ _ _, by rw [← hw2, ← hw1]; exact (MapI.newM w).allocM _, fun j => by simp [keysE]⟩
  have hpre : DnPre p w1.heap.size w.heap.size c most cnt M k w2 (.slice none 0 0) [] 0 0 root [] [] none ps ci 0 ((k : Int) + 1) := ⟨⟨_, _, hS⟩, h.below hb2, (fun j hj e => by
    have := h.lt j hj
    rcases e with e | e | e
    · omega
    · omega
    · cases e), hT, .inl ⟨rfl, rfl⟩, .inr rfl, hsh, by simpa using hnd, by simpa using hfew, by simp, .inl rfl, by omega, by omega, by omega⟩
  have HD := Lib.hid (seeDown_ok k _ _ _ _ _ root [] [] none ps ci 0 _ hpre)
  simp only [List.nil_append] at HD
  have HB2 := Lib.hid hb2
  have hne : ci ≠ [] := by
    intro e
    cases k with
    | zero => obtain ⟨_, _, _, _, _, _, e2, _⟩ := hT; rw [e] at e2; cases e2
    | succ k => obtain ⟨_, _, _, _, _, _, _, _, _, e2⟩ := hT; rw [e] at e2; cases e2
  have HZ := Lib.hid hz1
  clear h hT hsh hnd hS hpre hb2 hz1 hne
  go_enter Tryz.func108, Tryz.ntmps108
  go_wp2_with (fail)
  go_must (refine HD.out.mono ?_)
  rintro e w3 ⟨rfl, hK⟩
  obtain ⟨iv, l', cc', hA, hO⟩ := hK.ex
  have hbl : Below w.heap.size w w3 := HB2.out.trans (hK.keeps.below HB2.out.size fun i hi e => by
    have := HZ.out
    rcases e with e | e | e
    · omega
    · omega
    · cases e)
  have c1 : w3.cell? ⟨w1.heap.size, 1, none⟩ = some iv := hA.blk.cell 1
  have hbase : ∀ k, iv.ownBlock = some k → w.heap.size ≤ k := fun k e => by
    rcases hO k e with e | e
    · cases e
    · have := HB2.out.size; omega
  have hrow : w3.ownsRow w.heap.size 3 1 iv ci.length (intsV ci) := by
    refine ⟨hA.row.1, ?_⟩
    rcases hA.row.2 with hn | ⟨g, cap, cur, rfl, _, rest⟩
    · exact .inl hn
    · exact .inr ⟨g, cap, cur, rfl, hbase g rfl, rest⟩
  have HSo := Lib.hid (sort_any iv ci w.heap.size w3 hrow (by omega))
  have hne : ∀ k, iv.ownBlock = some k → k ≠ w1.heap.size := own_ne hA.row hA.blk (by decide)
  have HA := Lib.hid (And.intro hA.blk (And.intro hbl hne))
  obtain ⟨Ai, ci', rfl, _⟩ := Sl.of_own hrow
  have HBs := Lib.hid hbase
  clear hK hA hO hbl hrow hne hbase
  go_wp2_with (fail)
  go_must (refine HSo.out.mono ?_)
  rintro e w4 ⟨rfl, hown, hK4⟩
  obtain ⟨hblk, hbl, hne⟩ := HA.out
  have HE : Hid (AllP p ci ((k : Int) + 1) (ps.length : Int) w (.returned (.tuple #[ptrV w1.heap.size, .int .i64 0])) w4) := by
    refine ⟨w1.heap.size, w.heap.size, _, rfl, ?_, hown, hbl.trans (hK4.below hbl.size fun i hi e => by have := HBs.out i e; omega)⟩
    have := hblk.keeps hK4 (fun e => hne _ e rfl)
    simpa using this
  clear hown hK4 hblk hbl hne
  go_wp2_with (fail)
  refine bodyPost_ret (v := .tuple #[ptrV w1.heap.size, .int .i64 0]) (by simp [results, Tryz.results108, go_sem]) rfl ?_
  exact HE.out

theorem treeOk_all {root : Int} {ps : List Pair} {w : World} (h : PgOk w p c most M cnt) (hT : TreeOk M root ps cnt) (hlen : ps.length ≤ 511) :
    ∃ (k : Nat) (ci : List Int), Calls Tryz.prog 108 #[ptrV p, .int .i64 root] w (AllP p ci ((k : Int) + 1) (ps.length : Int) w) ∧ cnt = ci.length ∧ ci.Nodup ∧ k ≤ 8 ∧ ci.length ≤ 6000 := by
  obtain ⟨⟨k, ids, h1, h2, h3⟩, hs⟩ := hT
  obtain ⟨b1, b2⟩ := tree_bound hs h1 (Nat.le_refl _)
  have hk := high_bound b2 hlen
  exact ⟨k, ids, all_ok root k ps ids w h h1 hs h2 (by omega) (by omega) (by omega), h3, h2, hk, by omega⟩

theorem count_ok (root : Int) (ps : List Pair) (w : World) (h : PgOk w p c most M cnt) (hT : TreeOk M root ps cnt) (hlen : ps.length ≤ 511) :
    Calls Tryz.prog 31 #[ptrV p, .int .i64 root] w fun e w' => e = .returned (.tuple #[.int .i64 (ps.length : Int), .int .i64 0]) ∧ Below w.heap.size w w' := by
  obtain ⟨k, ci, hA, _⟩ := treeOk_all h hT hlen
  have HA := Lib.hid hA
  clear hA h hT
  go_enter Tryz.func31, Tryz.ntmps31
  go_wp2_with (fail)
  go_must (refine HA.out.mono ?_)
  rintro e w1 ⟨b, sb, iv, rfl, hblk, _, hb⟩
  have c4 : w1.cell? ⟨b, 4, none⟩ = some (.int .i64 (ps.length : Int)) := hblk.cell 4
  go_wp2_with (fail)
  refine bodyPost_ret (v := .tuple #[.int .i64 (ps.length : Int), .int .i64 0]) (by simp [results, Tryz.results31, go_sem]) rfl ?_
  exact ⟨rfl, hb⟩
end
end Go.Ev
