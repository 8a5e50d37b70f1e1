/-
  Law 11's alive, walked over the contracts of all that it calls.
-/
import Derived.Test.YtijlmjfemedjdaaGreatDoorMGGwTreeG
import Derived.Test.YtijlmjfemedjdaaGreatDoorMGGwBeg2
import Derived.Test.YtijlmjfemedjdaaGreatDoorMGGwGetT
set_option linter.unusedVariables false
set_option linter.unusedSimpArgs false
set_option linter.unusedVariables false
set_option linter.unusedSimpArgs false
namespace Go.Ev
open Go.Proofs Go.RowKit Go.Shelf

section
variable {p most cnt : Nat} {c : Pc} {M : Store}

/-- A pager whose blocks are all younger, and a tree of one pair at most. -/
structure Yg (B p : Nat) (most : Nat) (root : Int) (ps : List Pair) (n : Nat) (w0 W : World) : Prop where
 ex : ∃ c M ids, PgOk W p c most M ids.length ∧ TreeH M root ps ids n ∧ ids.length ≤ 12 ∧ ∀ k, c.S p k → B ≤ k
 bl : Below B w0 W
 size : B ≤ W.heap.size

theorem Yg.below {B n : Nat} {root : Int} {ps : List Pair} {w0 W W' : World} (h : Yg B p most root ps n w0 W) (hb : Below W.heap.size W W') : Yg B p most root ps n w0 W' := by
 obtain ⟨c, M, ids, h1, h2, h3, h4⟩ := h.ex
 exact ⟨⟨c, M, ids, h1.below hb, h2, h3, h4⟩, h.bl.trans (hb.mono h.size), Nat.le_trans h.size hb.size⟩

/-- A tree of one pair at most has twelve pages at most. -/
theorem TreeH.few {root : Int} {ps : List Pair} {ids : List Int} {n : Nat} (h : TreeH M root ps ids n) (hp : ps.length ≤ 1) : ids.length ≤ 12 ∧ TreeOk M root ps ids.length := by
 obtain ⟨⟨k, S, h1, h2⟩, h3, h4⟩ := h
 obtain rfl := h1.low hp
 have h5 := h1.leaf2
 exact ⟨by have := (tree_bound h4 h5 (Nat.le_refl _)).1; omega, ⟨⟨0, ids, h5, h3, rfl⟩, h4⟩⟩

theorem PutGP.yg {B : Nat} {ids : List Int} {ps' : List Pair} {n' : Nat} {w0 W W' : World} {e : Ending} (h : PutGP p c most M ids.length ids ps' n' W e W') (hS : ∀ k, c.S p k → B ≤ k) (hbl : Below B w0 W) (hB : B ≤ W.heap.size) (hp : ps'.length ≤ 1) :
  ∃ r, e = .returned (.tuple #[.int .i64 r, .int .i64 0]) ∧ Yg B p most r ps' n' w0 W' := by
 obtain ⟨r, M', c', cnt', ids', rfl, h1, h2, h3, h4, h5, hK⟩ := h
 obtain rfl : cnt' = ids'.length := by omega
 exact ⟨r, rfl, ⟨⟨c', M', ids', h2, h1, (h1.few hp).1, fun k hk => (hK.sub k hk).elim (hS k) fun e => Nat.le_trans hB e⟩, hbl.trans (hK.keeps.below hB fun i hi e => by have := hS i e; omega), Nat.le_trans hB hK.keeps.size⟩⟩

theorem Yg.put {B n : Nat} {root : Int} {ps : List Pair} {w0 W : World} (h : Yg B p most root ps n w0 W) (key v : Bytes) (hk1 : 1 ≤ key.length) (hk2 : key.length ≤ 40) (hv : v.length ≤ 2000) (hl : ps.length ≤ 1) (hl' : (insP key v ps).length ≤ 1) (hn : n ≤ 20000) (hm : 30 ≤ most) :
  Calls Tryz.prog 16 #[ptrV p, .int .i64 root, strV key, strV v] W fun e w' => ∃ r, e = .returned (.tuple #[.int .i64 r, .int .i64 0]) ∧ Yg B p most r (insP key v ps) (n + 1) w0 w' := by
 obtain ⟨c, M, ids, h1, h2, h3, h4⟩ := h.ex
 exact (treePutG_ok root key v ps ids n h1 h2 hk1 hk2 hv hn (by omega) (.inr ⟨hl, by omega⟩)).mono fun e w' hp => hp.yg h4 h.bl h.size hl'

theorem Yg.del {B n : Nat} {root : Int} {key v : Bytes} {w0 W : World} (h : Yg B p most root [(key, v)] n w0 W) (hk1 : 1 ≤ key.length) (hk2 : key.length ≤ 40) (hn : n ≤ 20000) (hm : 30 ≤ most) :
  Calls Tryz.prog 19 #[ptrV p, .int .i64 root, strV key] W fun e w' => ∃ r, e = .returned (.tuple #[.int .i64 r, .int .i64 0]) ∧ Yg B p most r [] n w0 w' := by
 obtain ⟨c, M, ids, h1, h2, h3, h4⟩ := h.ex
 have hd : delP key [(key, v)] = [] := by simp [delP]
 have := treeDelG_ok root key [(key, v)] ids n h1 h2 hk1 hk2 (by simp [getP]) hn (by omega) (.inr ⟨by simp, by omega⟩)
 rw [hd] at this
 exact this.mono fun e w' hp => hp.yg h4 h.bl h.size (by simp)

theorem Yg.get {B n : Nat} {root : Int} {ps : List Pair} {w0 W : World} (h : Yg B p most root ps n w0 W) (key : Bytes) (hk1 : 1 ≤ key.length) (hk2 : key.length ≤ 40) (hn : ps.length ≤ 1) :
  Calls Tryz.prog 30 #[ptrV p, .int .i64 root, strV key] W (GetTP key ps W) := by
 obtain ⟨c, M, ids, h1, h2, h3, h4⟩ := h.ex
 exact treeGet_ok root key ps W h1 (h2.few hn).2 (by omega) hk1 hk2

theorem Yg.height {B n : Nat} {root : Int} {w0 W : World} (h : Yg B p most root [] n w0 W) (hn : n ≤ 20000) : Calls Tryz.prog 12 #[ptrV p, .int .i64 root] W fun e w' => e = .returned (.tuple #[.int .i64 1, .int .i64 0]) ∧ Below W.heap.size W w' := by
 obtain ⟨c, M, ids, h1, h2, h3, h4⟩ := h.ex
 refine (heightG_ok root [] ids n W h1 h2 hn (by omega) (by simp)).mono ?_
 rintro e w' ⟨k, _, _, k3, rfl, hb⟩
 rw [k3 rfl]
 exact ⟨rfl, hb⟩
end

theorem begin_30 (w : World) : Calls Tryz.prog 10 #[.int .i64 30] w fun e w' => ∃ d f p root, e = .returned (.tuple #[ptrV d, ptrV f, ptrV p, .int .i64 root, .bool true]) ∧ Yg w.heap.size p 30 root [] 0 w w' := by
 refine (begin_m (m := 30) (by omega) w).mono ?_
 rintro e w' ⟨d, f, p, c, root, rfl, hp, hs, hb⟩
 exact ⟨d, f, p, root, rfl, ⟨⟨c, _, [root], hp, TreeH.new (by simp [updS]), by simp, hs⟩, hb, hb.size⟩⟩

set_option maxHeartbeats 4000000 in
set_option maxRecDepth 100000 in
theorem alive11 (w : World) : Calls Tryz.prog 9 #[] w (TrueB w) := by
 go_enter Tryz.func9, Tryz.ntmps9
 go_wp2_with (fail)
 go_must (refine (begin_30 w).mono ?_)
 rintro e w1 ⟨d, f, p, root, rfl, hY1⟩
 have HP1 := Lib.hid (hY1.put [97] [49] (by decide) (by decide) (by decide) (by decide) (by decide) (by decide) (by decide))
 clear hY1
 go_wp2_with (fail)
 go_must (refine HP1.out.mono ?_)
 rintro e w2 ⟨r2, rfl, hY2⟩
 have e2 : insP [97] [49] [] = [([97], [49])] := by decide
 rw [e2] at hY2
 have HP2 := Lib.hid (hY2.put [97] [50] (by decide) (by decide) (by decide) (by decide) (by decide) (by decide) (by decide))
 clear hY2 e2
 go_wp2_with (fail)
 go_must (refine HP2.out.mono ?_)
 rintro e w3 ⟨r3, rfl, hY3⟩
 have e3 : insP [97] [50] [([97], [49])] = [([97], [50])] := by decide
 rw [e3] at hY3
 have HG3 := Lib.hid (hY3.get [97] (by decide) (by decide) (by decide))
 have HY3 := Lib.hid hY3
 clear hY3 e3
 go_wp2_with (fail)
 go_must (refine HG3.out.mono ?_)
 rintro e w4 ⟨hv4, hb4⟩
 obtain rfl : e = .returned (.tuple #[strV [50], .int .i64 0]) := by
  rcases hv4 with ⟨_, v, hv, rfl⟩ | ⟨hn, _⟩
  ·have h1 : ([([97], [50])] : List Pair)[aheadP [97] [([97], [50])]]? = some (([97], [50]) : Pair) := by decide
   rw [h1] at hv
   simp only [Option.some.injEq, Prod.mk.injEq, true_and] at hv
   rw [hv]
  ·have h1 : isAtP [97] [([97], [50])] = true := by decide
   rw [h1] at hn
   cases hn
 have hY4 := HY3.out.below hb4
 have HD4 := Lib.hid (hY4.del (by decide) (by decide) (by decide) (by decide))
 clear hv4 hb4 hY4
 go_wp2_with (fail)
 go_must (refine HD4.out.mono ?_)
 rintro e w5 ⟨r5, rfl, hY5⟩
 have HG5 := Lib.hid (hY5.get [97] (by decide) (by decide) (by decide))
 have HY5 := Lib.hid hY5
 clear hY5
 go_wp2_with (fail)
 go_must (refine HG5.out.mono ?_)
 rintro e w6 ⟨hv6, hb6⟩
 obtain rfl : e = .returned (.tuple #[strV [], .int .i64 7]) := by
  rcases hv6 with ⟨hn, _⟩ | ⟨_, rfl⟩
  ·cases hn
  ·rfl
 have hY6 := HY5.out.below hb6
 have HH6 := Lib.hid (hY6.height (by decide))
 have HY6 := Lib.hid hY6
 clear hv6 hb6 hY6
 go_wp2_with (fail)
 go_must (refine HH6.out.mono ?_)
 rintro e w7 ⟨rfl, hb7⟩
 have HB := Lib.hid (HY6.out.below hb7).bl
 clear hb7
 go_wp2_with (fail)
 go_ret
 exact ⟨rfl, HB.out⟩
end Go.Ev
