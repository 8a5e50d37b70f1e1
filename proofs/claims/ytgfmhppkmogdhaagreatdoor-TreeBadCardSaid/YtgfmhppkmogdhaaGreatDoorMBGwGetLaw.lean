/-
  A page that is none of a tree is not loaded. A page that is none of a tree is not loaded: what it has does not read, or is not alone, or is too little. There is no way down where a page is none of a tree. slices.Backward over strings. A tree has a way down for every key. How many stand ahead of a key: in a leaf, and in all pairs. The way to a key ends at the leaf that would hold it: what is found there is what the tree has.
-/
import Derived.Test.YtgfmhppkmogdhaaGreatDoorMBGwLoad
import Derived.Test.YtgfmhppkmogdhaaGreatDoorMBGwBeg2
import Derived.Test.YtgfmhppkmogdhaaGreatDoorMBGwWay
import Derived.Test.YtgfmhppkmogdhaaGreatDoorMBGwUp0
import Derived.Test.YtgfmhppkmogdhaaGreatDoorMBGvRise
import Derived.Test.YtgfmhppkmogdhaaGreatDoorMBGvCurs
import Derived.Test.YtgfmhppkmogdhaaGreatDoorMBGvGrow
set_option linter.unusedVariables false
set_option linter.unusedSimpArgs false
set_option linter.unusedVariables false
set_option linter.unusedSimpArgs false
namespace Go.Ev
open Go.Proofs Go.RowKit

abbrev nodeB (b : Bool) (A : Option Addr) (c : Nat) (B : Option Addr) (d : Nat) : Value := .agg #[.bool b, .slice A 0 c, .slice B 0 d]

/-- A page that does not read as a node. -/
def NodeBad (x : Pg) : Prop := (x.kind ≠ 2 ∧ x.kind ≠ 3) ∨ (x.kind = 2 ∧ (getI x.body).2 ≠ 0) ∨ (x.kind = 3 ∧ (getC x.body).2 ≠ 0)

def NodeBadP (w : World) (e : Ending) (w' : World) : Prop := ∃ b A c B d, e = .returned (.tuple #[nodeB b A c B d, .bool false]) ∧ Below w.heap.size w w'

set_option maxHeartbeats 1000000 in
set_option maxRecDepth 100000 in
theorem node_bad (x : Pg) (w : World) (hx : NodeBad x) (hs : x.body.length ≤ 300) :
    Calls Tryz.prog 194 #[.agg #[.int .i64 x.kind, .int .i64 x.next, strV x.body]] w (NodeBadP w) := by
  obtain ⟨kind, next, body⟩ := x
  have bx : Blk (w.alloc (.cells #[.int .i64 kind, .int .i64 next, strV body] 81)) w.heap.size 81 #[.int .i64 kind, .int .i64 next, strV body] := Blk.new _ _ _
  have x0 : (w.alloc (.cells #[.int .i64 kind, .int .i64 next, strV body] 81)).cell? ⟨w.heap.size, 0, none⟩ = some (.int .i64 kind) := bx.cell 0
  have bn : Blk ((w.alloc (.cells #[.int .i64 kind, .int .i64 next, strV body] 81)).alloc (.cells #[.bool false, .slice none 0 0, .slice none 0 0] 182)) (w.heap.size + 1) 182 #[.bool false, .slice none 0 0, .slice none 0 0] := Blk.new' (by simp)
  rcases hx with ⟨h2, h3⟩ | ⟨rfl, hg⟩ | ⟨rfl, hg⟩
  · have k2 : (kind == (2 : Int)) = false := by simpa using h2
    have k3 : (kind == (3 : Int)) = false := by simpa using h3
    have HB := Lib.hid (((Below.refl _ w).alloc (Nat.le_refl _) (.cells #[.int .i64 kind, .int .i64 next, strV body] 81)).alloc (by simp) (.cells #[.bool false, .slice none 0 0, .slice none 0 0] 182))
    clear h2 h3 bx
    go_enter Tryz.func194, Tryz.ntmps194
    go_wp2_with (fail)
    refine bodyPost_ret (res_row [.bool false, .slice none 0 0, .slice none 0 0] rfl rfl rfl (by kernel_rfl) bn) rfl ?_
    exact ⟨_, _, _, _, _, rfl, HB.out⟩
  · have hG := fun W => getI_any body W hs
    unfold GetPost at hG
    rw [(getI_err body).resolve_left hg] at hG
    have HG := Lib.hid hG
    clear hG hg
    go_enter Tryz.func194, Tryz.ntmps194
    go_wp2_with (fail)
    go_must (refine (HG.out _).mono ?_)
    rintro e w1 ⟨v, rfl, hown, hb1⟩
    obtain ⟨A, c, rfl, -⟩ := Sl.of_own hown
    obtain ⟨c0, c1, c2, f0, f1, f2, hbn⟩ := node_box (Blk.below' bn hb1) (.bool true) (.slice A 0 c) (.slice none 0 0)
    have hs1 := hb1.size
    simp at hs1
    have hK := node_keeps w1 (w.heap.size + 1) (.bool true) (.slice A 0 c) (.slice none 0 0)
    have hbW : Below w.heap.size w w1 := (((Below.refl _ w).alloc (Nat.le_refl _) _).alloc (by simp) _).trans (hb1.mono (by simp; omega))
    have HB := Lib.hid (hbW.trans (hK.below (by omega) (fun i hi e => by omega)))
    clear hown hK
    go_wp2_with (fail)
    refine bodyPost_ret (res_row [.bool true, .slice A 0 c, .slice none 0 0] rfl rfl rfl (by kernel_rfl) hbn) rfl ?_
    exact ⟨_, _, _, _, _, rfl, HB.out⟩
  · have hG := fun W => getC_any body W hs
    unfold GetCPost at hG
    rw [(getC_err body).resolve_left hg] at hG
    have HG := Lib.hid hG
    clear hG hg
    go_enter Tryz.func194, Tryz.ntmps194
    go_wp2_with (fail)
    go_must (refine (HG.out _).mono ?_)
    rintro e w1 ⟨v, rfl, hown, hb1⟩
    obtain ⟨A, c, rfl, -⟩ := Sl.of_own hown
    obtain ⟨c0, c1, c2, f0, f1, f2, hbn⟩ := node_box (Blk.below' bn hb1) (.bool false) (.slice none 0 0) (.slice A 0 c)
    have hs1 := hb1.size
    simp at hs1
    have hK := node_keeps w1 (w.heap.size + 1) (.bool false) (.slice none 0 0) (.slice A 0 c)
    have hbW : Below w.heap.size w w1 := (((Below.refl _ w).alloc (Nat.le_refl _) _).alloc (by simp) _).trans (hb1.mono (by simp; omega))
    have HB := Lib.hid (hbW.trans (hK.below (by omega) (fun i hi e => by omega)))
    clear hown hK
    go_wp2_with (fail)
    refine bodyPost_ret (res_row [.bool false, .slice none 0 0, .slice A 0 c] rfl rfl rfl (by kernel_rfl) hbn) rfl ?_
    exact ⟨_, _, _, _, _, rfl, HB.out⟩

section
variable {p : Nat} {c : Pc} {most cnt : Nat} {M : Store}

abbrev node0 : Value := .agg #[.bool false, .slice none 0 0, .slice none 0 0]

set_option maxHeartbeats 2000000 in
set_option maxRecDepth 100000 in
/-- Too deep, or a page that is not there. -/
theorem load_none (id : Int) (k : Nat) (w : World) (h : PgOk w p c most M cnt) (hm : M id = none ∨ 30 ≤ k) :
    Calls Tryz.prog 128 #[ptrV p, .int .i64 id, .int .i64 k] w (ErrP [node0] w) := by
  have bt : Blk (w.alloc (.cells #[.bool false, .slice none 0 0, .slice none 0 0] 182)) w.heap.size 182 #[.bool false, .slice none 0 0, .slice none 0 0] := Blk.new _ _ _
  have hb0 : Below w.heap.size w (w.alloc (.cells #[.bool false, .slice none 0 0, .slice none 0 0] 182)) := (Below.refl _ _).alloc (Nat.le_refl _) _
  by_cases hk : 30 ≤ k
  · have hk30 : (30 : Int) ≤ (k : Int) := by omega
    obtain ⟨c0, c1, c2, f0, f1, f2, hbn⟩ := node_box bt (.bool false) (.slice none 0 0) (.slice none 0 0)
    have hK := node_keeps (w.alloc (.cells #[.bool false, .slice none 0 0, .slice none 0 0] 182)) w.heap.size (.bool false) (.slice none 0 0) (.slice none 0 0)
    have HB := Lib.hid hb0
    have HB2 := Lib.hid (hb0.trans (hK.below (by simp) (fun i hi e => by omega)))
    clear hb0 hm h hK
    go_enter Tryz.func128, Tryz.ntmps128
    go_wp2_with (fail)
    first
      | (refine bodyPost_ret (res_row [.bool false, .slice none 0 0, .slice none 0 0] rfl rfl rfl (by kernel_rfl) bt) rfl ?_; exact ⟨_, (by decide), rfl, HB.out⟩)
      | (refine bodyPost_ret (res_row [.bool false, .slice none 0 0, .slice none 0 0] rfl rfl rfl (by kernel_rfl) hbn) rfl ?_; exact ⟨_, (by decide), rfl, HB2.out⟩)
  · have hk30 : ¬ (30 : Int) ≤ (k : Int) := by omega
    have HRd := Lib.hid (read_none id _ (h.below hb0) (hm.resolve_right hk))
    have HB := Lib.hid hb0
    clear hb0 hm h hk
    go_enter Tryz.func128, Tryz.ntmps128
    go_wp2_with (fail)
    go_must (refine HRd.out.mono ?_)
    rintro e w1 ⟨k2, hk2, rfl, hb1⟩
    have hk3 : (k2 != 0) = true := by simpa using hk2
    have bt1 := (Blk.below' bt hb1).alloc (.cells #[.int .i64 0, .int .i64 0, .string ⟨#[]⟩] 81)
    obtain ⟨c0, c1, c2, f0, f1, f2, hbn⟩ := node_box bt1 (.bool false) (.slice none 0 0) (.slice none 0 0)
    have hK := node_keeps (w1.alloc (.cells #[.int .i64 0, .int .i64 0, .string ⟨#[]⟩] 81)) w.heap.size (.bool false) (.slice none 0 0) (.slice none 0 0)
    have hz1 := hb1.size
    simp at hz1
    have HB1 := Lib.hid (((HB.out.trans (hb1.mono HB.out.size)).alloc (by omega) (.cells #[.int .i64 0, .int .i64 0, .string ⟨#[]⟩] 81)).trans (hK.below (by simp; omega) (fun i hi e => by omega)))
    clear hb1 hK
    simp only [pgZ]
    go_wp2_with (fail)
    refine bodyPost_ret (res_row [.bool false, .slice none 0 0, .slice none 0 0] rfl rfl rfl (by kernel_rfl) hbn) rfl ?_
    exact ⟨k2, hk2, rfl, HB1.out⟩
end
end Go.Ev

set_option linter.unusedVariables false
set_option linter.unusedSimpArgs false
namespace Go.Ev
open Go.Proofs Go.RowKit

section
variable {p : Nat} {c : Pc} {most cnt : Nat} {M : Store}

set_option maxHeartbeats 2000000 in
set_option maxRecDepth 100000 in
/-- It does not read as a node. -/
theorem load_badA (id : Int) (k : Nat) (x : Pg) (hx : NodeBad x) (hs : x.body.length ≤ 300) (w : World) (h : PgOk w p c most M cnt) (hm : M id = some x) (hk : k < 30) :
    Calls Tryz.prog 128 #[ptrV p, .int .i64 id, .int .i64 k] w (ErrP [node0] w) := by
  have hRd := Lib.hid (fun W (hb : Below w.heap.size w W) => read_some id _ W (h.below hb) hm)
  have hN := Lib.hid (fun W => node_bad x W hx hs)
  have hk30 : ¬ (30 : Int) ≤ (k : Int) := by omega
  clear h hm
  go_enter Tryz.func128, Tryz.ntmps128
  go_wp2_with (fail)
  go_must (refine (hRd.out _ ((Below.refl _ _).alloc (Nat.le_refl _) _)).mono ?_)
  rintro e w1 ⟨rfl, hb1⟩
  have bt : Blk (w.alloc (.cells #[.bool false, .slice none 0 0, .slice none 0 0] 182)) w.heap.size 182 #[.bool false, .slice none 0 0, .slice none 0 0] := Blk.new _ _ _
  have bt1 := Blk.below' bt hb1
  have hs1 := hb1.size
  simp at hs1
  go_wp2_with (fail)
  have bx : Blk (w1.alloc (.cells #[.int .i64 x.kind, .int .i64 x.next, strV x.body] 81)) w1.heap.size 81 #[.int .i64 x.kind, .int .i64 x.next, strV x.body] := Blk.new _ _ _
  go_must (refine (hN.out _).mono ?_)
  rintro e w2 ⟨b, A, cA, B, cB, rfl, hb2⟩
  have hs2 := hb2.size
  simp at hs2
  have bx2 := Blk.below' bx hb2
  have y1 : (w2.alloc (.cells #[.bool b, .slice A 0 cA, .slice B 0 cB] 182)).cell? ⟨w1.heap.size, 1, none⟩ = some (.int .i64 x.next) := (bx2.alloc _).cell 1
  have bt2 := (Blk.below' (bt1.alloc _) hb2).alloc (.cells #[.bool b, .slice A 0 cA, .slice B 0 cB] 182)
  obtain ⟨c0, c1, c2, f0, f1, f2, hbn⟩ := node_box bt2 (.bool false) (.slice none 0 0) (.slice none 0 0)
  have hK := node_keeps (w2.alloc (.cells #[.bool b, .slice A 0 cA, .slice B 0 cB] 182)) w.heap.size (.bool false) (.slice none 0 0) (.slice none 0 0)
  have hbW : Below w.heap.size w (w2.alloc (.cells #[.bool b, .slice A 0 cA, .slice B 0 cB] 182)) := (((Below.refl _ w).alloc (Nat.le_refl _) _).trans (hb1.mono (by simp))).trans ((((Below.refl _ w1).alloc (Nat.le_refl _) _).trans (hb2.mono (by simp))).mono (by omega)) |>.alloc (by omega) _
  have HB := Lib.hid (hbW.trans (hK.below (by simp; omega) (fun i hi e => by omega)))
  clear hK hRd hbW
  go_wp2_with (fail)
  refine bodyPost_ret (res_row [.bool false, .slice none 0 0, .slice none 0 0] rfl rfl rfl (by kernel_rfl) hbn) rfl ?_
  exact ⟨_, (by decide), rfl, HB.out⟩

set_option maxHeartbeats 2000000 in
set_option maxRecDepth 100000 in
/-- A leaf that is not alone. -/
theorem load_badL (id : Int) (k : Nat) (next : Int) (items : List Item) (hr : riseI items = true) (hs : (layI items).length ≤ 240) (hn : next ≠ 0) (w : World) (h : PgOk w p c most M cnt) (hm : M id = some ⟨2, next, layI items⟩) (hk : k < 30) :
    Calls Tryz.prog 128 #[ptrV p, .int .i64 id, .int .i64 k] w (ErrP [node0] w) := by
  have hRd := Lib.hid (fun W (hb : Below w.heap.size w W) => read_some id _ W (h.below hb) hm)
  have hN := Lib.hid (fun W => node_leaf items next W hr hs)
  have hn1 : (next != 0) = true := by simpa using hn
  clear hr hn
  have hk30 : ¬ (30 : Int) ≤ (k : Int) := by omega
  clear h hm
  go_enter Tryz.func128, Tryz.ntmps128
  go_wp2_with (fail)
  go_must (refine (hRd.out _ ((Below.refl _ _).alloc (Nat.le_refl _) _)).mono ?_)
  rintro e w1 ⟨rfl, hb1⟩
  have bt : Blk (w.alloc (.cells #[.bool false, .slice none 0 0, .slice none 0 0] 182)) w.heap.size 182 #[.bool false, .slice none 0 0, .slice none 0 0] := Blk.new _ _ _
  have bt1 := Blk.below' bt hb1
  have hs1 := hb1.size
  simp at hs1
  go_wp2_with (fail)
  have bx : Blk (w1.alloc (.cells #[.int .i64 2, .int .i64 next, strV (layI items)] 81)) w1.heap.size 81 #[.int .i64 2, .int .i64 next, strV (layI items)] := Blk.new _ _ _
  go_must (refine (hN.out _).mono ?_)
  rintro e w2 ⟨v, rfl, hown, hb2⟩
  unfold OwnsI at hown
  obtain ⟨A, cc, rfl, -⟩ := Sl.of_own hown
  clear hown
  have hs2 := hb2.size
  simp at hs2
  have bx2 := Blk.below' bx hb2
  have y1 : (w2.alloc (.cells #[.bool true, .slice A items.length cc, .slice none 0 0] 182)).cell? ⟨w1.heap.size, 1, none⟩ = some (.int .i64 next) := (bx2.alloc _).cell 1
  have bt2 := (Blk.below' (bt1.alloc _) hb2).alloc (.cells #[.bool true, .slice A items.length cc, .slice none 0 0] 182)
  obtain ⟨c0, c1, c2, f0, f1, f2, hbn⟩ := node_box bt2 (.bool false) (.slice none 0 0) (.slice none 0 0)
  have hK := node_keeps (w2.alloc (.cells #[.bool true, .slice A items.length cc, .slice none 0 0] 182)) w.heap.size (.bool false) (.slice none 0 0) (.slice none 0 0)
  have hbW : Below w.heap.size w (w2.alloc (.cells #[.bool true, .slice A items.length cc, .slice none 0 0] 182)) := (((Below.refl _ w).alloc (Nat.le_refl _) _).trans (hb1.mono (by simp))).trans ((((Below.refl _ w1).alloc (Nat.le_refl _) _).trans (hb2.mono (by simp))).mono (by omega)) |>.alloc (by omega) _
  have HB := Lib.hid (hbW.trans (hK.below (by simp; omega) (fun i hi e => by omega)))
  clear hK hRd hbW
  go_wp2_with (fail)
  refine bodyPost_ret (res_row [.bool false, .slice none 0 0, .slice none 0 0] rfl rfl rfl (by kernel_rfl) hbn) rfl ?_
  exact ⟨_, (by decide), rfl, HB.out⟩

set_option maxHeartbeats 2000000 in
set_option maxRecDepth 100000 in
/-- A branch that is not alone. -/
theorem load_badB (id : Int) (k : Nat) (next : Int) (L : List Child) (hr : rightC L = true) (hs : (layC L).length ≤ 240) (hn : next ≠ 0) (w : World) (h : PgOk w p c most M cnt) (hm : M id = some ⟨3, next, layC L⟩) (hk : k < 30) :
    Calls Tryz.prog 128 #[ptrV p, .int .i64 id, .int .i64 k] w (ErrP [node0] w) := by
  have hRd := Lib.hid (fun W (hb : Below w.heap.size w W) => read_some id _ W (h.below hb) hm)
  have hN := Lib.hid (fun W => node_branch L next W hr hs)
  have hn1 : (next != 0) = true := by simpa using hn
  clear hr hn
  have hk30 : ¬ (30 : Int) ≤ (k : Int) := by omega
  clear h hm
  go_enter Tryz.func128, Tryz.ntmps128
  go_wp2_with (fail)
  go_must (refine (hRd.out _ ((Below.refl _ _).alloc (Nat.le_refl _) _)).mono ?_)
  rintro e w1 ⟨rfl, hb1⟩
  have bt : Blk (w.alloc (.cells #[.bool false, .slice none 0 0, .slice none 0 0] 182)) w.heap.size 182 #[.bool false, .slice none 0 0, .slice none 0 0] := Blk.new _ _ _
  have bt1 := Blk.below' bt hb1
  have hs1 := hb1.size
  simp at hs1
  go_wp2_with (fail)
  have bx : Blk (w1.alloc (.cells #[.int .i64 3, .int .i64 next, strV (layC L)] 81)) w1.heap.size 81 #[.int .i64 3, .int .i64 next, strV (layC L)] := Blk.new _ _ _
  go_must (refine (hN.out _).mono ?_)
  rintro e w2 ⟨v, rfl, hown, hb2⟩
  unfold OwnsC at hown
  obtain ⟨A, cc, rfl, -⟩ := Sl.of_own hown
  clear hown
  have hs2 := hb2.size
  simp at hs2
  have bx2 := Blk.below' bx hb2
  have y1 : (w2.alloc (.cells #[.bool false, .slice none 0 0, .slice A L.length cc] 182)).cell? ⟨w1.heap.size, 1, none⟩ = some (.int .i64 next) := (bx2.alloc _).cell 1
  have bt2 := (Blk.below' (bt1.alloc _) hb2).alloc (.cells #[.bool false, .slice none 0 0, .slice A L.length cc] 182)
  obtain ⟨c0, c1, c2, f0, f1, f2, hbn⟩ := node_box bt2 (.bool false) (.slice none 0 0) (.slice none 0 0)
  have hK := node_keeps (w2.alloc (.cells #[.bool false, .slice none 0 0, .slice A L.length cc] 182)) w.heap.size (.bool false) (.slice none 0 0) (.slice none 0 0)
  have hbW : Below w.heap.size w (w2.alloc (.cells #[.bool false, .slice none 0 0, .slice A L.length cc] 182)) := (((Below.refl _ w).alloc (Nat.le_refl _) _).trans (hb1.mono (by simp))).trans ((((Below.refl _ w1).alloc (Nat.le_refl _) _).trans (hb2.mono (by simp))).mono (by omega)) |>.alloc (by omega) _
  have HB := Lib.hid (hbW.trans (hK.below (by simp; omega) (fun i hi e => by omega)))
  clear hK hRd hbW
  go_wp2_with (fail)
  refine bodyPost_ret (res_row [.bool false, .slice none 0 0, .slice none 0 0] rfl rfl rfl (by kernel_rfl) hbn) rfl ?_
  exact ⟨_, (by decide), rfl, HB.out⟩

set_option maxHeartbeats 2000000 in
set_option maxRecDepth 100000 in
/-- A root with less than two children. -/
theorem load_badC (id : Int) (k : Nat) (hk0 : k = 0) (L : List Child) (hr : rightC L = true) (hs : (layC L).length ≤ 240) (hn : L.length < 2) (w : World) (h : PgOk w p c most M cnt) (hm : M id = some ⟨3, 0, layC L⟩) (hk : k < 30) :
    Calls Tryz.prog 128 #[ptrV p, .int .i64 id, .int .i64 k] w (ErrP [node0] w) := by
  have hRd := Lib.hid (fun W (hb : Below w.heap.size w W) => read_some id _ W (h.below hb) hm)
  have hN := Lib.hid (fun W => node_branch L 0 W hr hs)
  have HK0 := Lib.hid hk0
  clear hr hk0
  have hk30 : ¬ (30 : Int) ≤ (k : Int) := by omega
  clear h hm
  go_enter Tryz.func128, Tryz.ntmps128
  go_wp2_with (fail)
  go_must (refine (hRd.out _ ((Below.refl _ _).alloc (Nat.le_refl _) _)).mono ?_)
  rintro e w1 ⟨rfl, hb1⟩
  have bt : Blk (w.alloc (.cells #[.bool false, .slice none 0 0, .slice none 0 0] 182)) w.heap.size 182 #[.bool false, .slice none 0 0, .slice none 0 0] := Blk.new _ _ _
  have bt1 := Blk.below' bt hb1
  have hs1 := hb1.size
  simp at hs1
  go_wp2_with (fail)
  have bx : Blk (w1.alloc (.cells #[.int .i64 3, .int .i64 0, strV (layC L)] 81)) w1.heap.size 81 #[.int .i64 3, .int .i64 0, strV (layC L)] := Blk.new _ _ _
  go_must (refine (hN.out _).mono ?_)
  rintro e w2 ⟨v, rfl, hown, hb2⟩
  unfold OwnsC at hown
  obtain ⟨A, cc, rfl, -⟩ := Sl.of_own hown
  clear hown
  obtain ⟨n, hn'⟩ : ∃ n, L.length = n := ⟨_, rfl⟩
  rw [hn'] at hn ⊢
  have hn2 : (n : Int) < 2 := by omega
  obtain rfl := HK0.out
  clear hn'
  have hs2 := hb2.size
  simp at hs2
  have bx2 := Blk.below' bx hb2
  have y1 : (w2.alloc (.cells #[.bool false, .slice none 0 0, .slice A n cc] 182)).cell? ⟨w1.heap.size, 1, none⟩ = some (.int .i64 0) := (bx2.alloc _).cell 1
  have bt2 := (Blk.below' (bt1.alloc _) hb2).alloc (.cells #[.bool false, .slice none 0 0, .slice A n cc] 182)
  obtain ⟨c0, c1, c2, f0, f1, f2, hbn⟩ := node_box bt2 (.bool false) (.slice none 0 0) (.slice none 0 0)
  have hK := node_keeps (w2.alloc (.cells #[.bool false, .slice none 0 0, .slice A n cc] 182)) w.heap.size (.bool false) (.slice none 0 0) (.slice none 0 0)
  have hbW : Below w.heap.size w (w2.alloc (.cells #[.bool false, .slice none 0 0, .slice A n cc] 182)) := (((Below.refl _ w).alloc (Nat.le_refl _) _).trans (hb1.mono (by simp))).trans ((((Below.refl _ w1).alloc (Nat.le_refl _) _).trans (hb2.mono (by simp))).mono (by omega)) |>.alloc (by omega) _
  have HB := Lib.hid (hbW.trans (hK.below (by simp; omega) (fun i hi e => by omega)))
  clear hK hRd hbW
  go_wp2_with (fail)
  refine bodyPost_ret (res_row [.bool false, .slice none 0 0, .slice none 0 0] rfl rfl rfl (by kernel_rfl) hbn) rfl ?_
  exact ⟨_, (by decide), rfl, HB.out⟩
end
end Go.Ev

set_option linter.unusedVariables false
set_option linter.unusedSimpArgs false
namespace Go.Ev
open Go.Proofs Go.RowKit

section
variable {p : Nat} {c : Pc} {most cnt : Nat} {M : Store}

set_option maxHeartbeats 2000000 in
set_option maxRecDepth 100000 in
/-- The root is not loaded. -/
theorem way_err (id : Int) (key : Bytes) (w : World) (hL : ∀ W, Below w.heap.size w W → Calls Tryz.prog 128 #[ptrV p, .int .i64 id, .int .i64 ((0 : Nat) : Int)] W (ErrP [node0] W)) :
    Calls Tryz.prog 97 #[ptrV p, .int .i64 id, strV key] w (ErrP [.slice none 0 0, .int .i64 0, .slice none 0 0] w) := by
  have HL := Lib.hid hL
  clear hL
  go_enter Tryz.func97, Tryz.ntmps97
  go_wp2
  go_loopg [10, 11] 0 (fun gk s10 s11 wr => s10 = .slice none 0 0 ∧ s11 = .int .i64 id ∧ w = wr)
  case atStart => exact ⟨rfl, rfl, rfl⟩
  case round =>
    obtain ⟨rfl, rfl, rfl⟩ := hrel
    go_wp2_with (fail)
    go_must (refine (HL.out _ (Below.refl _ _)).mono ?_)
    rintro e w1 ⟨k, hk, rfl, hb1⟩
    simp only [List.cons_append, List.nil_append]
    have hk2 : (k != 0) = true := by simpa using hk
    have HB := Lib.hid (hb1.alloc hb1.size (.cells #[.bool false, .slice none 0 0, .slice none 0 0] 182))
    clear hb1
    go_wp2_with (fail)
    refine bodyPost_ret (v := .tuple #[.slice none 0 0, .int .i64 0, .slice none 0 0, .int .i64 k]) (by simp [results, Tryz.results97, go_sem]) rfl ?_
    exact ⟨k, hk, rfl, HB.out⟩

set_option maxHeartbeats 2000000 in
set_option maxRecDepth 100000 in
/-- A branch whose child is itself, or no page. -/
theorem way_loop (id : Int) (key : Bytes) (L : List Child) (x : Child) (w : World) (h : PgOk w p c most M cnt) (hm : M id = some ⟨3, 0, layC L⟩) (hr : rightC L = true) (hs : (layC L).length ≤ 240) (h2 : 2 ≤ L.length) (hat : L[findC key L]? = some x) (hx : x.page = id ∨ M x.page = none) :
    Calls Tryz.prog 97 #[ptrV p, .int .i64 id, strV key] w (ErrP [.slice none 0 0, .int .i64 0, .slice none 0 0] w) := by
  obtain ⟨i0, hi, hz0, hz1, hz2⟩ := info_parts infoStep
  have HH := Lib.hid (And.intro h (And.intro hm (And.intro hr (And.intro hs (And.intro h2 hat)))))
  have hl2 := layC_len L
  have hL120 : L.length ≤ 120 := by omega
  have HX := Lib.hid hx
  clear h hm hr hs hx hl2
  go_enter Tryz.func97, Tryz.ntmps97
  go_wp2
  go_loopg [10, 11] 31 (fun gk s10 s11 wr => ∃ (t : Nat) (cur : Int) (xs : List Value), s11 = .int .i64 cur ∧ t ≤ 30 ∧ t + gk = 31 ∧ Hid (cur = id ∨ M cur = none) ∧ Hid (wr.ownsRow w.heap.size 239 3 s10 t xs) ∧ Hid (Below w.heap.size w wr))
  case atStart => exact ⟨0, id, [], rfl, by omega, by omega, .inl rfl, World.ownsRow_nil _ _ _ _, Below.refl _ _⟩
  case round =>
    obtain ⟨t, cur, xs, rfl, ht, hg, hcur, hown, hb⟩ := hrel
    have hpg := HH.out.1.below hb.out
    have hz := hb.out.size
    obtain ⟨A, cc, rfl, -⟩ := Sl.of_own hown.out
    by_cases hbad : M cur = none ∨ 30 ≤ t
    · have HLo := Lib.hid (load_none cur t wr hpg hbad)
      clear hpg hbad hcur
      go_wp2_with (fail)
      go_must (refine HLo.out.mono ?_)
      rintro e w1 ⟨k, hk, rfl, hb1⟩
      simp only [List.cons_append, List.nil_append]
      have hk2 : (k != 0) = true := by simpa using hk
      have HB := Lib.hid ((hb.out.trans (hb1.mono hz)).alloc (Nat.le_trans hz hb1.size) (.cells #[.bool false, .slice none 0 0, .slice none 0 0] 182))
      clear hb1
      go_wp2_with (fail)
      refine bodyPost_ret (v := .tuple #[.slice none 0 0, .int .i64 0, .slice none 0 0, .int .i64 k]) (by simp [results, Tryz.results97, go_sem]) rfl ?_
      exact ⟨k, hk, rfl, HB.out⟩
    · have hci : cur = id := hcur.out.resolve_right fun e => hbad (.inl e)
      subst hci
      have ht30 : t < 30 := by
        have : ¬ 30 ≤ t := fun e => hbad (.inr e)
        omega
      have HLo := Lib.hid (load_branch cur t L wr hpg HH.out.2.1 HH.out.2.2.1 HH.out.2.2.2.1 ht30 (.inl HH.out.2.2.2.2.1))
      clear hpg hbad hcur
      go_wp2_with (fail)
      go_must (refine HLo.out.mono ?_)
      rintro e w1 ⟨v, rfl, hIt, hb1⟩
      unfold OwnsC at hIt
      obtain ⟨B, d, rfl, -⟩ := Sl.of_own hIt
      have bx : Blk (w1.alloc (.cells #[.bool false, .slice none 0 0, .slice B L.length d] 182)) w1.heap.size 182 #[.bool false, .slice none 0 0, .slice B L.length d] := Blk.new _ _ _
      have x0 : (w1.alloc (.cells #[.bool false, .slice none 0 0, .slice B L.length d] 182)).cell? ⟨w1.heap.size, 0, none⟩ = some (.bool false) := bx.cell 0
      have x2 : (w1.alloc (.cells #[.bool false, .slice none 0 0, .slice B L.length d] 182)).cell? ⟨w1.heap.size, 2, none⟩ = some (.slice B L.length d) := bx.cell 2
      have hs1 := hb1.size
      have HO := Lib.hid ((own_below hown.out hb1).alloc (.cells #[.bool false, .slice none 0 0, .slice B L.length d] 182))
      have hI2 := (own_base hIt hz).alloc (.cells #[.bool false, .slice none 0 0, .slice B L.length d] 182)
      have HB := Lib.hid ((hb.out.trans (hb1.mono hz)).alloc (by omega) (.cells #[.bool false, .slice none 0 0, .slice B L.length d] 182))
      have HF := Lib.hid (findC_any B L.length d L key _ (Sl.of_own hI2) (by omega) HH.out.2.2.1)
      have HI := Lib.hid hI2
      clear hown hIt hb hb1 hI2
      go_wp2_with (fail)
      go_must (refine HF.out.mono ?_)
      rintro e w2 ⟨rfl, rfl⟩
      have hat1 := (List.getElem?_eq_some_iff.1 HH.out.2.2.2.2.2).1
      have hm1 : t + 1 ≤ maxLen := by unfold maxLen; omega
      go_wp2_with (at_builtin; go_must (refine wpList_append_own _ rfl _ _ 132 rfl w.heap.size 239 i0 _ 3 40 Tryz.underlying132 hi hz0 hz1 hz2 rfl (by decide) _ t xs rfl (HO.out.alloc _) ⟨w1.heap.size + 1, 0, none⟩ 1 1 (stepCs ⟨cur, findC key L, .slice B L.length d, L⟩) rfl rfl (row_newI _ (stepCs ⟨cur, findC key L, .slice B L.length d, L⟩) _ _ (by simp)) (by simp [Value.oneCell', stepCs]) hm1 (by omega) (by simp; omega) ?_))
      intro v4 w4 own4 hg4 _
      have K4 : Keeps (fun k => _ = some k) (w1.alloc (.cells #[.bool false, .slice none 0 0, .slice B L.length d] 182)) w4 := ((Keeps.refl (fun k => _ = some k) _).alloc _).grown hg4 (fun k hk _ => hk)
      have bx4 := bx.keeps K4 (fun e => own_ne HO.out bx (by decide) _ e rfl)
      have y2 : w4.cell? ⟨w1.heap.size, 2, none⟩ = some (.slice B L.length d) := bx4.cell 2
      have hI4 := own_keeps HI.out K4 (fun k hk e => own_apart HI.out HO.out (by decide) k hk e)
      have HB4 := Lib.hid (HB.out.trans (K4.below HB.out.size (fun i hi hk => by have := (HO.out.lt i hk).1; omega)))
      have HO4 := Lib.hid own4
      obtain ⟨A', c', e0, _, _, hcl⟩ := Sl.of_own hI4
      cases e0
      obtain ⟨blk, off, rfl, hbl, hcell⟩ := hcl (by omega)
      obtain ⟨_, j1⟩ := child_2 (w := w4) fun i u hu => child_cells hcell hat1 i u hu
      have hxe : L[findC key L] = x := by
        have := HH.out.2.2.2.2.2
        rw [List.getElem?_eq_getElem hat1, Option.some.injEq] at this
        exact this
      rw [hxe] at j1
      clear own4 hg4 hcell hI4 hcl K4 HF hxe
      have hf0 : (0 : Int) ≤ (findC key L : Int) := by omega
      have hfl : (findC key L : Int) < (L.length : Int) := by omega
      go_wp2_with (fail)
      go_roundg (gk - 1)
      case measure => omega
      case rel => exact ⟨t + 1, x.page, _, rfl, by omega, by omega, HX.out, HO4.out, HB4.out⟩
end
end Go.Ev

set_option linter.unusedVariables false
set_option linter.unusedSimpArgs false
namespace Go.Ev
open Go.Proofs Go.RowKit Go.Shelf

attribute [local go_sem] Oper.semAt_some

set_option maxRecDepth 100000 in
set_option maxHeartbeats 2000000 in
theorem backS1_in (F : Fence) (n : Nat) (hf : F.fn 243) (hro : F.round = none) (hn : 1 ≤ n) (l Bs b off cap : Nat) (st : List Bytes) (hreach : st.length ≤ 100000) (J : Nat → World → Prop)
    (hY : ∀ (k : Nat) (x : Fin st.length) W, (backs st.length)[k]? = some x → J k W → YieldAt F (n - 1) Tryz.prog l #[.int .i64 (x.1 : Int), strV st[x.1]] W fun e W' => e = .returned (.bool true) ∧ J (k + 1) W' ∧ KB Bs b W W')
    (W : World) (hBs : W.cell? ⟨Bs, 0, none⟩ = some (.slice (some ⟨b, off, none⟩) st.length cap)) (hc : ∀ j u, (strsV st)[j]? = some u → W.cell? ⟨b, off + j, none⟩ = some u) (h0 : J 0 W) :
    CallsIn F n Tryz.prog 243 #[.func (.yield l) #[] #[], .pointer (some ⟨Bs, 0, none⟩)] W fun e W' => (∃ v, e = .returned v) ∧ J st.length W' := by
  refine callsIn_of_wp Tryz.func243 rfl hf ?_ hro
  simp only [Tryz.ntmps243, List.size_toArray, List.length_cons, List.length_nil, Nat.reduceAdd, Nat.reduceSub, Array.replicate_succ, Array.replicate_zero, List.push_toArray, List.append_toArray, List.nil_append, List.cons_append]
  gi_wp2
  gi_loopw [3] (fun i wr => ∃ k : Nat, k ≤ st.length ∧ i = .int .i64 ((st.length : Int) - 1 - k) ∧ J k wr ∧ KB Bs b W wr)
    (fun i _ => (Go.RowKit.intOf i + 1).toNat)
  case atStart => exact ⟨0, Nat.zero_le _, by simp, h0, KB.refl _ _ _⟩
  case round =>
    obtain ⟨k, hk, rfl, hJs, hnx⟩ := hrel
    have hBx : wr.cell? ⟨Bs, 0, none⟩ = some (.slice (some ⟨b, off, none⟩) st.length cap) := (World.cell?_of_block hnx.1).trans hBs
    by_cases hlt : k < st.length
    · obtain ⟨m, hm⟩ : ∃ m, m = st.length - 1 - k := ⟨_, rfl⟩
      have hmI : (st.length : Int) - 1 - (k : Int) = (m : Int) := by omega
      have hml : m < st.length := by omega
      obtain ⟨fn, tmps, assign, body, hy, hR⟩ := hY k ⟨m, hml⟩ wr (by rw [backs_at _ _ hlt]; congr; exact hm.symm) hJs
      have q0 : wr.cell? ⟨b, off + m, none⟩ = some (strV st[m]) := (World.cell?_of_block hnx.2).trans (hc m _ (by simp [strsV, hml]))
      dsimp only at hy
      rw [hmI]
      have HM := Lib.hid hm
      clear hY hm
      have hm0 : (0 : Int) ≤ (m : Int) := by omega
      have hmlt : (m : Int) < (st.length : Int) := by omega
      gi_wp2
      refine hR.mono ?_
      rintro e W3 ⟨rfl, hJ3, hk3⟩
      gi_wp2
      go_roundw
      case rel => exact ⟨k + 1, by omega, by have := HM.out; congr 1; omega, hJ3, hnx.trans hk3⟩
      case measure => simp [Go.RowKit.intOf]
    · obtain rfl : k = st.length := by omega
      gi_wp2
      go_end0
      exact ⟨⟨_, rfl⟩, hJs⟩

set_option maxRecDepth 100000 in
set_option maxHeartbeats 1000000 in
theorem backS1_nil_in (F : Fence) (n : Nat) (hf : F.fn 243) (hro : F.round = none) (l Bs c : Nat) (A : Option Addr) (J : Nat → World → Prop) (W : World) (hBs : W.cell? ⟨Bs, 0, none⟩ = some (.slice A 0 c)) (h0 : J 0 W) :
    CallsIn F n Tryz.prog 243 #[.func (.yield l) #[] #[], .pointer (some ⟨Bs, 0, none⟩)] W fun e W' => (∃ v, e = .returned v) ∧ J 0 W' := by
  refine callsIn_of_wp Tryz.func243 rfl hf ?_ hro
  simp only [Tryz.ntmps243, List.size_toArray, List.length_cons, List.length_nil, Nat.reduceAdd, Nat.reduceSub, Array.replicate_succ, Array.replicate_zero, List.push_toArray, List.append_toArray, List.nil_append, List.cons_append]
  gi_wp2
  gi_loopw [3] (fun i wr => i = .int .i64 (-1) ∧ J 0 wr) (fun _ _ => 0)
  case atStart => exact ⟨rfl, h0⟩
  case round =>
    obtain ⟨rfl, hJs⟩ := hrel
    gi_wp2
    go_end0
    exact ⟨⟨_, rfl⟩, hJs⟩

/-- **slices.Backward's value, over a row of strings.** -/
theorem backS_each (F : Fence) (n : Nat) (hf : F.fn 243) (hro : F.round = none) (hn : 1 ≤ n) (Bs b off cap : Nat) (A : Option Addr) (st : List Bytes) (hreach : st.length ≤ 100000) (w : World) (hBl : Bs < w.heap.size)
    (hBs : w.cell? ⟨Bs, 0, none⟩ = some (.slice A st.length cap)) (hA : 0 < st.length → A = some ⟨b, off, none⟩) (hbl : 0 < st.length → b < w.heap.size) (hc : ∀ j u, (strsV st)[j]? = some u → w.cell? ⟨b, off + j, none⟩ = some u) :
    Each F n Tryz.prog 243 #[.pointer (some ⟨Bs, 0, none⟩)] (fun x : Fin st.length => #[.int .i64 (x.1 : Int), strV st[x.1]]) (KB Bs b) (backs st.length) w := fun l J W hW hY h0 => by
  have hBs' := (hW.cell (p := ⟨Bs, 0, none⟩) hBl).trans hBs
  rw [backs_len]
  cases st with
  | nil => exact backS1_nil_in F n hf hro l Bs cap A J W hBs' h0
  | cons s st =>
    rw [hA (by simp)] at hBs'
    exact backS1_in F n hf hro hn l Bs b off cap (s :: st) hreach J hY W hBs' (fun j u hu => (hW.cell (p := ⟨b, off + j, none⟩) (hbl (by simp))).trans (hc j u hu)) h0

set_option maxHeartbeats 1000000 in
theorem backwardS_in (F : Fence) (n : Nat) (hf : F.fn 201) (hro : F.round = none) (a : Option Addr) (len cap : Nat) (w : World) :
    CallsIn F n Tryz.prog 201 #[.slice a len cap] w fun e w' => e = .returned (.func (.func 243) #[] #[.pointer (some ⟨w.heap.size, 0, none⟩)]) ∧ w' = w.alloc (.cells #[.slice a len cap] 195) := by
  refine callsIn_of_wp Tryz.func201 rfl hf ?_ hro
  simp only [Tryz.ntmps201, List.size_toArray, List.length_cons, List.length_nil, Nat.reduceAdd, Nat.reduceSub, Array.replicate_succ, Array.replicate_zero, List.push_toArray, List.append_toArray, List.nil_append, List.cons_append]
  gi_wp2
  go_ret
  exact ⟨rfl, rfl⟩
end Go.Ev

set_option linter.unusedVariables false
set_option linter.unusedSimpArgs false
namespace Go.Ev

theorem Seg.get {T : Int → Bytes → Option Bytes → List Pair → List Int → Prop} : ∀ {L : List Child} {hi : Option Bytes} {ps : List Pair} {ids : List Int} {i : Nat} {y : Child}, Seg T L hi ps ids → L[i]? = some y → ∃ h p q, T y.page y.key h p q
  | [], _, _, _, _, _, _, h => by simp at h
  | c :: L, hi, ps, ids, 0, y, ⟨p1, p2, i1, i2, _, _, h3, _⟩, h => by
    simp only [List.getElem?_cons_zero, Option.some.injEq] at h
    subst h
    exact ⟨_, _, _, h3⟩
  | c :: L, hi, ps, ids, i + 1, y, ⟨p1, p2, i1, i2, _, _, _, h4⟩, h => Seg.get h4 (by simpa using h)

theorem headKey_page (k : Bytes) : ∀ (L : List Child) (i : Nat) (x : Child), (headKey k L)[i]? = some x → ∃ y, L[i]? = some y ∧ y.page = x.page
  | [], i, x, h => by simp [headKey] at h
  | c :: L, 0, x, h => by
    simp only [headKey, List.getElem?_cons_zero, Option.some.injEq] at h
    subst h
    exact ⟨c, rfl, rfl⟩
  | c :: L, i + 1, x, h => ⟨x, by simpa [headKey] using h, rfl⟩

theorem findC_lt {k : Bytes} {c : Child} {L : List Child} : findC k (c :: L) < (c :: L).length := by
  have := below_le k L
  unfold findC
  simp only [List.tail_cons, List.length_cons]
  omega

theorem TreeAt.way {M : Store} {d : Nat} (key : Bytes) : ∀ {k lev : Nat} {id : Int} {lo : Bytes} {hi : Option Bytes} {ps : List Pair} {ids : List Int}, TreeAt M d k id lo hi ps ids → (2 ≤ d ∨ 0 < lev) → lev + k < 30 → (ps ≠ [] ∨ lev = 0) →
    ∃ P lid items, Way M key lev id P lid items ∧ P.length = k
  | 0, lev, id, lo, hi, ps, ids, ⟨items, i2, h1, h2, h3, h4, h5, h6⟩, hd, hl, hp => by
    refine ⟨[], id, items, .leaf h1 h2 h3 ?_ (by omega), rfl⟩
    rcases hp with hp | hp
    · refine .inl fun e => hp ?_
      subst e
      exact h4.1
    · exact .inr hp
  | k + 1, lev, id, lo, hi, ps, ids, ⟨c, L, i2, h1, h2, h3, h4, h5, h6, h7⟩, hd, hl, hp => by
    have hlt : findC key (headKey [] (c :: L)) < (headKey [] (c :: L)).length := findC_lt
    obtain ⟨x, hx⟩ : ∃ x, (headKey [] (c :: L))[findC key (headKey [] (c :: L))]? = some x := ⟨_, List.getElem?_eq_getElem hlt⟩
    obtain ⟨y, hy, hpg⟩ := headKey_page [] _ _ _ hx
    obtain ⟨h', p', q', ht, hne⟩ := Seg.get h6 hy
    rw [hpg] at ht
    obtain ⟨P, lid, items, hw, hlen⟩ := TreeAt.way (lev := lev + 1) key ht (.inr (by omega)) (by omega) (.inl hne)
    refine ⟨_, lid, items, .branch h1 h2 h3 ?_ (by omega) hx hw, by simp [hlen]⟩
    rcases hd with hd | hd
    · refine .inl ?_
      simp only [headKey, List.length_cons]
      omega
    · exact .inr hd
end Go.Ev

set_option linter.unusedVariables false
set_option linter.unusedSimpArgs false
namespace Go.Ev
open Go.Proofs Go.RowKit

theorem aheadP_appT {k : Bytes} : ∀ {a b : List Pair}, (∀ q ∈ a, lessB q.1 k = true) → aheadP k (a ++ b) = a.length + aheadP k b
  | [], b, _ => by simp
  | q :: a, b, h => by
    simp only [List.cons_append, aheadP, List.length_cons]
    rw [if_pos (h q (List.mem_cons_self ..)), aheadP_appT fun z hz => h z (List.mem_cons_of_mem _ hz)]
    omega
theorem aheadP_stopT {k : Bytes} : ∀ {a b : List Pair}, (∀ q ∈ b, lessB q.1 k = false) → aheadP k (a ++ b) = aheadP k a
  | [], [], _ => rfl
  | [], q :: b, h => by simp [aheadP, h q (List.mem_cons_self ..)]
  | q :: a, b, h => by
    simp only [List.cons_append, aheadP]
    rw [aheadP_stopT h]
theorem ahead_leafT {M : Store} {k : Bytes} : ∀ {l : List Item} {ps : List Pair} {ids : List Int}, LeafAt M l ps ids → ahead k l = aheadP k ps
  | [], _, _, ⟨h, _⟩ => by subst h; rfl
  | x :: l, _, _, ⟨v, ps', i1, i2, h1, h2, h3, h4⟩ => by
    subst h1
    simp only [ahead, aheadP]
    rw [ahead_leafT h4]
theorem ahead_zipT {M : Store} {all ps : List Pair} {id : Int} {lo : Bytes} {hi : Option Bytes} {off : Nat} {path : List (List Child × Nat)} {its : List Item} {i2 : List Int} {key : Bytes} (hz : Zip M 2 all 0 id lo hi ps off path) (hla : LeafAt M its ps i2) (hin : inR lo hi key) : aheadP key all = off + ahead key its := by
  obtain ⟨a, b, e1, e2, e3, e4⟩ := hz.pos
  rw [e1, aheadP_appT fun q hq => lessB_of_lt_le (e3 q hq) hin.1, e2, aheadP_stopT, ahead_leafT hla]
  intro q hq
  obtain ⟨u, hu, hl⟩ := e4 q hq
  cases hc : lessB q.1 key
  · rfl
  · have := lessB_trans hc (hin.2 u hu)
    rw [this] at hl
    cases hl

theorem rising_tailT {q : Pair} {l : List Pair} (h : Rising (q :: l)) : Rising l ∧ ∀ p ∈ l, lessB q.1 p.1 = true := by
  have := Rising.append.1 (show Rising ([q] ++ l) from h)
  exact ⟨this.2.1, fun p hp => this.2.2 q (by simp) p hp⟩

theorem rising_splitT {all : List Pair} {i : Nat} {q : Pair} (hr : Rising all) (hq : all[i]? = some q) : (∀ p ∈ all.take i, lessB p.1 q.1 = true) ∧ ∀ p ∈ all.drop (i + 1), lessB q.1 p.1 = true := by
  obtain ⟨hlt, he⟩ := List.getElem?_eq_some_iff.1 hq
  have e : all = all.take i ++ q :: all.drop (i + 1) := by
    rw [← he, ← List.drop_eq_getElem_cons hlt, List.take_append_drop]
  rw [e, Rising.append] at hr
  exact ⟨fun p hp => hr.2.2 p hp q (List.mem_cons_self ..), (rising_tailT hr.2.1).2⟩

/-- A pair stands where its key is sought. -/
theorem ahead_atT {all : List Pair} {i : Nat} {q : Pair} (hr : Rising all) (hq : all[i]? = some q) : aheadP q.1 all = i ∧ isAtP q.1 all = true := by
  obtain ⟨hlt, he⟩ := List.getElem?_eq_some_iff.1 hq
  obtain ⟨h1, h2⟩ := rising_splitT hr hq
  have e : all = all.take i ++ q :: all.drop (i + 1) := by
    rw [← he, ← List.drop_eq_getElem_cons hlt, List.take_append_drop]
  have ha : aheadP q.1 all = i := by
    rw [e, aheadP_appT h1, List.length_take, Nat.min_eq_left (Nat.le_of_lt hlt)]
    simp [aheadP, lessB_irrefl]
  refine ⟨ha, ?_⟩
  rw [isAtP_eq, ha, hq]
  simp
end Go.Ev

set_option linter.unusedVariables false
set_option linter.unusedSimpArgs false
namespace Go.Ev

theorem Trail.zip {M : Store} {d : Nat} {all : List Pair} {key : Bytes} {id lid : Int} {P : List (Int × Nat × List Child)} {items : List Item} (ht : Trail M key id P lid items) :
    ∀ {k : Nat} {lo : Bytes} {hi : Option Bytes} {ps : List Pair} {off : Nat} {path : List (List Child × Nat)}, Zip M d all k id lo hi ps off path → inR lo hi key →
      ∃ lo' hi' ps' off' path' i2, Zip M d all 0 lid lo' hi' ps' off' path' ∧ inR lo' hi' key ∧ LeafAt M items ps' i2 ∧ riseI items = true ∧ (layI items).length ≤ 240 := by
  induction ht with
  | leaf h1 h2 h3 =>
    intro k lo hi ps off path hz hin
    cases k with
    | zero =>
      obtain ⟨⟨ids, its, i2, q1, q2, q3, q4, _, _⟩, _⟩ := hz.tree
      rw [h1] at q1
      simp only [Option.some.injEq, Pg.mk.injEq, true_and] at q1
      have := layI_inj h2 q2 h3 q1
      subst this
      exact ⟨lo, hi, ps, off, path, i2, hz, hin, q4, h2, h3⟩
    | succ k =>
      obtain ⟨L, q1, _⟩ := hz.child
      rw [h1] at q1
      simp at q1
  | branch h1 h2 h3 h4 _ ih =>
    intro k lo hi ps off path hz hin
    cases k with
    | zero =>
      obtain ⟨⟨ids, its, i2, q1, _⟩, _⟩ := hz.tree
      rw [h1] at q1
      simp at q1
    | succ k =>
      obtain ⟨L', q1, q2, q3, _, q5⟩ := hz.child
      rw [h1] at q1
      simp only [Option.some.injEq, Pg.mk.injEq, true_and] at q1
      have := layC_inj h2 q2 h3 q1
      subst this
      obtain ⟨lo', hi', ps', off', hz', _, _, hk⟩ := q5 _ _ h4
      exact ih hz' (hk _ hin rfl)

/-- What the leaf says of a key, and what all pairs say. -/
theorem leaf_find {M : Store} {all ps : List Pair} {lid : Int} {lo : Bytes} {hi : Option Bytes} {off : Nat} {path : List (List Child × Nat)} {items : List Item} {i2 : List Int} {key : Bytes} (hz : Zip M 2 all 0 lid lo hi ps off path) (hla : LeafAt M items ps i2) (hin : inR lo hi key) :
    isAtP key all = isAt key items ∧ ∀ (h : ahead key items < items.length), isAt key items = true → ∃ v ids, all[aheadP key all]? = some (key, v) ∧ ValAt M items[ahead key items] v ids := by
  have ha := ahead_zipT hz hla hin
  obtain ⟨a, b, e1, e2, e3, e4⟩ := hz.pos
  have hlen := hla.item.1
  have hat : ∀ (h : ahead key items < items.length), ∃ v ids, all[aheadP key all]? = some (items[ahead key items].key, v) ∧ ValAt M items[ahead key items] v ids := by
    intro h
    obtain ⟨hkey, ids, hval⟩ := hla.item.2 (ahead key items) h (by omega)
    refine ⟨_, ids, ?_, hval⟩
    rw [ha, e1, List.getElem?_append_right (by omega), e2, Nat.add_sub_cancel_left, List.getElem?_append_left (by omega), List.getElem?_eq_getElem (by omega), hkey]
  refine ⟨?_, fun h hi => ?_⟩
  · rw [isAtP_eq]
    by_cases h : ahead key items < items.length
    · obtain ⟨v, ids, h1, _⟩ := hat h
      rw [h1]
      cases hc : isAt key items with
      | true =>
        obtain ⟨x, hx, hk⟩ := isAt_iff.1 hc
        rw [List.getElem?_eq_getElem h, Option.some.injEq] at hx
        simp [hx, hk]
      | false =>
        have : ¬ items[ahead key items].key = key := fun e => by
          have := isAt_iff.2 ⟨_, List.getElem?_eq_getElem h, e⟩
          rw [hc] at this
          cases this
        simpa using this
    · have hle := ahead_le key items
      have hc : isAt key items = false := by
        cases hc : isAt key items with
        | false => rfl
        | true =>
          obtain ⟨x, hx, _⟩ := isAt_iff.1 hc
          exact absurd (List.getElem?_eq_some_iff.1 hx).1 h
      rw [hc]
      cases hq : all[aheadP key all]? with
      | none => rfl
      | some q =>
        rw [ha, e1, List.getElem?_append_right (by omega), e2, Nat.add_sub_cancel_left, List.getElem?_append_right (by omega)] at hq
        obtain ⟨u, hu, hl⟩ := e4 q (List.mem_of_getElem? hq)
        have h2 := hin.2 u hu
        simp only [beq_eq_false_iff_ne, ne_eq]
        intro e
        rw [e, h2] at hl
        cases hl
  · obtain ⟨v, ids, h1, h2⟩ := hat h
    obtain ⟨x, hx, hk⟩ := isAt_iff.1 hi
    rw [List.getElem?_eq_getElem h, Option.some.injEq] at hx
    rw [hx, hk] at h1
    exact ⟨v, ids, h1, h2⟩
end Go.Ev
