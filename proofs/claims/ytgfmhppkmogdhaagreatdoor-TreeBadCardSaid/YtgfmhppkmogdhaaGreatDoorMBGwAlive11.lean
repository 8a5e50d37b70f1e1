/-
  Law 11's alive, walked over the contracts of all that it calls.
-/
import Derived.Test.YtgfmhppkmogdhaaGreatDoorMBGwDelOne
import Derived.Test.YtgfmhppkmogdhaaGreatDoorMBGwBeg2
import Derived.Test.YtgfmhppkmogdhaaGreatDoorMBGwGrown
set_option linter.unusedVariables false
set_option linter.unusedSimpArgs false
set_option linter.unusedVariables false
set_option linter.unusedSimpArgs false
namespace Go.Ev
open Go.Proofs Go.RowKit Go.Shelf

section
variable {p most cnt : Nat} {c : Pc} {M : Store}

theorem TreeOk.cnt_le {root : Int} {ps : List Pair} (h : TreeOk M root ps cnt) : cnt ≤ 11 * ps.length + 1 := by
  obtain ⟨⟨k, ids, h1, _, rfl⟩, hs⟩ := h
  exact (tree_bound hs h1 (Nat.le_refl _)).1

theorem height_empty (root : Int) (w : World) (h : PgOk w p c most M cnt) (hT : TreeOk M root [] cnt) :
    Calls Tryz.prog 99 #[ptrV p, .int .i64 root] w fun e w' => e = .returned (.tuple #[.int .i64 1, .int .i64 0]) ∧ Below w.heap.size w w' := by
  obtain ⟨⟨k, ids, h1, h2, _⟩, hs⟩ := hT
  obtain ⟨rfl, rfl⟩ := tree_empty h1
  have HA := Lib.hid (all_ok root 0 [] [root] w h h1 hs h2 (by simp) (by omega) (by simp))
  clear h h1 h2 hs
  go_enter Tryz.func99, Tryz.ntmps99
  go_wp2_with (fail)
  go_must (refine HA.out.mono ?_)
  rintro e w1 ⟨b, sb, iv, rfl, hblk, _, hb⟩
  have c3 : w1.cell? ⟨b, 3, none⟩ = some (.int .i64 1) := hblk.cell 3
  go_wp2_with (fail)
  refine bodyPost_ret (v := .tuple #[.int .i64 1, .int .i64 0]) (by simp [results, Tryz.results99, go_sem]) rfl ?_
  exact ⟨rfl, hb⟩

/-- A pager whose blocks are all younger. -/
structure Yg (B p : Nat) (most : Nat) (root : Int) (ps : List Pair) (w0 W : World) : Prop where
  ex : ∃ c M cnt, PgOk W p c most M cnt ∧ TreeOk M root ps cnt ∧ ∀ k, c.S p k → B ≤ k
  bl : Below B w0 W
  size : B ≤ W.heap.size

theorem Yg.below {B : Nat} {root : Int} {ps : List Pair} {w0 W W' : World} (h : Yg B p most root ps w0 W) (hb : Below W.heap.size W W') : Yg B p most root ps w0 W' := by
  obtain ⟨c, M, cnt, h1, h2, h3⟩ := h.ex
  exact ⟨⟨c, M, cnt, h1.below hb, h2, h3⟩, h.bl.trans (hb.mono h.size), Nat.le_trans h.size hb.size⟩

theorem Yg.step {B : Nat} {root' : Int} {ps' : List Pair} {w0 W W' : World} {c' : Pc} {M' : Store} {cnt' : Nat} (hbl : Below B w0 W) (hsz : B ≤ W.heap.size) (hS : ∀ k, c.S p k → B ≤ k) (hp : PgOk W' p c' most M' cnt') (ht : TreeOk M' root' ps' cnt') (hK : PgK p c c' W W') : Yg B p most root' ps' w0 W' :=
  ⟨⟨c', M', cnt', hp, ht, fun k hk => (hK.sub k hk).elim (hS k) fun e => Nat.le_trans hsz e⟩, hbl.trans (hK.keeps.below hsz fun i hi e => by have := hS i e; omega), Nat.le_trans hsz hK.keeps.size⟩

theorem Yg.put {B : Nat} {root : Int} {ps : List Pair} {w0 W : World} (h : Yg B p most root ps w0 W) (key v : Bytes) (hk1 : 1 ≤ key.length) (hk2 : key.length ≤ 40) (hv : v.length ≤ 2000) (hn : ps.length ≤ 1) (hm : 30 ≤ most) :
    Calls Tryz.prog 30 #[ptrV p, .int .i64 root, strV key, strV v] W fun e w' => ∃ r, e = .returned (.tuple #[.int .i64 r, .int .i64 0]) ∧ Yg B p most r (insP key v ps) w0 w' := by
  obtain ⟨c, M, cnt, h1, h2, h3⟩ := h.ex
  have hc := h2.cnt_le
  refine (treePut_ok root key v ps 1 h1 h2 hk1 hk2 hv hn (by omega) (.inr ⟨by omega, by omega⟩)).mono ?_
  rintro e w' ⟨r, M', c', cnt', rfl, hT, hP, hK⟩
  exact ⟨r, rfl, Yg.step h.bl h.size h3 hP hT hK⟩

theorem Yg.del {B : Nat} {root : Int} {key v : Bytes} {w0 W : World} (h : Yg B p most root [(key, v)] w0 W) (hk1 : 1 ≤ key.length) (hk2 : key.length ≤ 40) (hm : 30 ≤ most) :
    Calls Tryz.prog 98 #[ptrV p, .int .i64 root, strV key] W fun e w' => ∃ r, e = .returned (.tuple #[.int .i64 r, .int .i64 0]) ∧ Yg B p most r [] w0 w' := by
  obtain ⟨c, M, cnt, h1, h2, h3⟩ := h.ex
  have hc := h2.cnt_le
  simp only [List.length_cons, List.length_nil] at hc
  refine (treeDel_one root key v W h1 h2 hk1 hk2 (by omega)).mono ?_
  rintro e w' ⟨r, M', c', cnt', rfl, hT, hP, hK⟩
  exact ⟨r, rfl, Yg.step h.bl h.size h3 hP hT hK⟩

theorem Yg.get {B : Nat} {root : Int} {ps : List Pair} {w0 W : World} (h : Yg B p most root ps w0 W) (key : Bytes) (hk1 : 1 ≤ key.length) (hk2 : key.length ≤ 40) (hn : ps.length ≤ 1) :
    Calls Tryz.prog 25 #[ptrV p, .int .i64 root, strV key] W (GetTP key ps W) := by
  obtain ⟨c, M, cnt, h1, h2, h3⟩ := h.ex
  exact treeGet_ok root key ps W h1 h2 (by omega) hk1 hk2

theorem Yg.height {B : Nat} {root : Int} {w0 W : World} (h : Yg B p most root [] w0 W) : Calls Tryz.prog 99 #[ptrV p, .int .i64 root] W fun e w' => e = .returned (.tuple #[.int .i64 1, .int .i64 0]) ∧ Below W.heap.size W w' := by
  obtain ⟨c, M, cnt, h1, h2, h3⟩ := h.ex
  exact height_empty root W h1 h2
end

theorem begin_30 (w : World) : Calls Tryz.prog 28 #[.int .i64 30] w fun e w' => ∃ d f p root, e = .returned (.tuple #[ptrV d, ptrV f, ptrV p, .int .i64 root, .bool true]) ∧ Yg w.heap.size p 30 root [] w w' := by
  refine (begin_m (m := 30) (by omega) w).mono ?_
  rintro e w' ⟨d, f, p, c, root, rfl, hp, hs, hb⟩
  exact ⟨d, f, p, root, rfl, ⟨⟨c, _, 1, hp, treeOk_new root, hs⟩, hb, hb.size⟩⟩

set_option maxHeartbeats 4000000 in
set_option maxRecDepth 100000 in
theorem alive11 (w : World) : Calls Tryz.prog 27 #[] w (TrueB w) := by
  go_enter Tryz.func27, Tryz.ntmps27
  go_wp2_with (fail)
  go_must (refine (begin_30 w).mono ?_)
  rintro e w1 ⟨d, f, p, root, rfl, hY1⟩
  have HP1 := Lib.hid (hY1.put [97] [49] (by decide) (by decide) (by decide) (by decide) (by decide))
  clear hY1
  go_wp2_with (fail)
  go_must (refine HP1.out.mono ?_)
  rintro e w2 ⟨r2, rfl, hY2⟩
  have e2 : insP [97] [49] [] = [([97], [49])] := by decide
  rw [e2] at hY2
  have HP2 := Lib.hid (hY2.put [97] [50] (by decide) (by decide) (by decide) (by decide) (by decide))
  clear hY2 e2
  go_wp2_with (fail)
  go_must (refine HP2.out.mono ?_)
  rintro e w3 ⟨r3, rfl, hY3⟩
  have e3 : insP [97] [50] [([97], [49])] = [([97], [50])] := by decide
  rw [e3] at hY3
  have HG3 := Lib.hid (hY3.get [97] (by decide) (by decide) (by decide))
  have HY3 := Lib.hid hY3
  clear hY3 e3
  go_wp2_with (fail)
  go_must (refine HG3.out.mono ?_)
  rintro e w4 ⟨hv4, hb4⟩
  obtain rfl : e = .returned (.tuple #[strV [50], .int .i64 0]) := by
    rcases hv4 with ⟨_, v, hv, rfl⟩ | ⟨hn, _⟩
    · have h1 : ([([97], [50])] : List Pair)[aheadP [97] [([97], [50])]]? = some (([97], [50]) : Pair) := by decide
      rw [h1] at hv
      simp only [Option.some.injEq, Prod.mk.injEq, true_and] at hv
      rw [hv]
    · have h1 : isAtP [97] [([97], [50])] = true := by decide
      rw [h1] at hn
      cases hn
  have hY4 := HY3.out.below hb4
  have HD4 := Lib.hid (hY4.del (by decide) (by decide) (by decide))
  clear hv4 hb4 hY4
  go_wp2_with (fail)
  go_must (refine HD4.out.mono ?_)
  rintro e w5 ⟨r5, rfl, hY5⟩
  have HG5 := Lib.hid (hY5.get [97] (by decide) (by decide) (by decide))
  have HY5 := Lib.hid hY5
  clear hY5
  go_wp2_with (fail)
  go_must (refine HG5.out.mono ?_)
  rintro e w6 ⟨hv6, hb6⟩
  obtain rfl : e = .returned (.tuple #[strV [], .int .i64 7]) := by
    rcases hv6 with ⟨hn, _⟩ | ⟨_, rfl⟩
    · cases hn
    · rfl
  have hY6 := HY5.out.below hb6
  have HH6 := Lib.hid hY6.height
  have HY6 := Lib.hid hY6
  clear hv6 hb6 hY6
  go_wp2_with (fail)
  go_must (refine HH6.out.mono ?_)
  rintro e w7 ⟨rfl, hb7⟩
  have HB := Lib.hid (HY6.out.below hb7).bl
  clear hb7
  go_wp2_with (fail)
  go_ret
  exact ⟨rfl, HB.out⟩
end Go.Ev
