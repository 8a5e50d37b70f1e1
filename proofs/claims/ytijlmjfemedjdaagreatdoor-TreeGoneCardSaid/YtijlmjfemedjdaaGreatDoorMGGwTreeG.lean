/-
  tree.Height, tree.Count, tree.Pages of a tree that has been put into and deleted from; tree.Delete with a bad key.
-/
import Derived.Test.YtijlmjfemedjdaaGreatDoorMGGwPutG
import Derived.Test.YtijlmjfemedjdaaGreatDoorMGGwDelG
import Derived.Test.YtijlmjfemedjdaaGreatDoorMGGwAll
import Derived.Test.YtijlmjfemedjdaaGreatDoorMGGwGetT
set_option linter.unusedVariables false
set_option linter.unusedSimpArgs false
set_option linter.unusedVariables false
set_option linter.unusedSimpArgs false
namespace Go.Ev
open Go.Proofs Go.RowKit

section
variable {p most cnt : Nat} {c : Pc} {M : Store}

theorem treeH_all {root : Int} {ps : List Pair} {ids : List Int} {n : Nat} {w : World} (h : PgOk w p c most M cnt) (hT : TreeH M root ps ids n) (hn : n ≤ 20000) (hl : ids.length ≤ 90000) (hps : ps.length ≤ 90000) :
  ∃ k : Nat, (n ≤ 250 → k ≤ 10) ∧ k + 1 ≤ ids.length ∧ (ps = [] → k = 0) ∧ Calls Tryz.prog 36 #[ptrV p, .int .i64 root] w (AllP p ids ((k : Int) + 1) (ps.length : Int) w) := by
 obtain ⟨⟨k, S, h1, h2⟩, h3, h4⟩ := hT
 have hk := h2.high17 hn
 exact ⟨k, h2.high, h1.tree.levels, fun e => by subst e; exact h1.tree.empty.1, all_ok root k ps ids w h h1 h4 h3 (by omega) (by omega) (by omega)⟩

theorem heightG_ok (root : Int) (ps : List Pair) (ids : List Int) (n : Nat) (w : World) (h : PgOk w p c most M cnt) (hT : TreeH M root ps ids n) (hn : n ≤ 20000) (hl : ids.length ≤ 90000) (hps : ps.length ≤ 90000) :
  Calls Tryz.prog 12 #[ptrV p, .int .i64 root] w fun e w' => ∃ k : Nat, (n ≤ 250 → k ≤ 10) ∧ k + 1 ≤ ids.length ∧ (ps = [] → k = 0) ∧ e = .returned (.tuple #[.int .i64 ((k : Int) + 1), .int .i64 0]) ∧ Below w.heap.size w w' := by
 obtain ⟨k, h1, h2, h3, hA⟩ := treeH_all h hT hn hl hps
 have HA := Lib.hid hA
 have H3 := Lib.hid h3
 have H1 := Lib.hid h1
 clear hA h hT h3 h1
 go_enter Tryz.func12, Tryz.ntmps12
 go_wp2_with (fail)
 go_must (refine HA.out.mono ?_)
 rintro e w1 ⟨b, sb, iv, rfl, hblk, _, hb⟩
 have c3 : w1.cell? ⟨b, 3, none⟩ = some (.int .i64 ((k : Int) + 1)) := hblk.cell 3
 go_wp2_with (fail)
 refine bodyPost_ret (v := .tuple #[.int .i64 ((k : Int) + 1), .int .i64 0]) (by simp [results, Tryz.results12, go_sem]) rfl ?_
 exact ⟨k, H1.out, h2, H3.out, rfl, hb⟩

theorem countG_ok (root : Int) (ps : List Pair) (ids : List Int) (n : Nat) (w : World) (h : PgOk w p c most M cnt) (hT : TreeH M root ps ids n) (hn : n ≤ 20000) (hl : ids.length ≤ 90000) (hps : ps.length ≤ 90000) :
  Calls Tryz.prog 13 #[ptrV p, .int .i64 root] w fun e w' => e = .returned (.tuple #[.int .i64 (ps.length : Int), .int .i64 0]) ∧ Below w.heap.size w w' := by
 obtain ⟨k, h1, h2, h3, hA⟩ := treeH_all h hT hn hl hps
 have HA := Lib.hid hA
 clear hA h hT h3 h1
 go_enter Tryz.func13, Tryz.ntmps13
 go_wp2_with (fail)
 go_must (refine HA.out.mono ?_)
 rintro e w1 ⟨b, sb, iv, rfl, hblk, _, hb⟩
 have c4 : w1.cell? ⟨b, 4, none⟩ = some (.int .i64 (ps.length : Int)) := hblk.cell 4
 go_wp2_with (fail)
 refine bodyPost_ret (v := .tuple #[.int .i64 (ps.length : Int), .int .i64 0]) (by simp [results, Tryz.results13, go_sem]) rfl ?_
 exact ⟨rfl, hb⟩

/-- tree.Pages: its pages in a row, rising. -/
theorem pagesG_ok (root : Int) (ps : List Pair) (ids : List Int) (n : Nat) (w : World) (h : PgOk w p c most M cnt) (hT : TreeH M root ps ids n) (hn : n ≤ 20000) (hl : ids.length ≤ 90000) (hps : ps.length ≤ 90000) :
  Calls Tryz.prog 14 #[ptrV p, .int .i64 root] w fun e w' => ∃ A cc, e = .returned (.tuple #[.slice A ids.length cc, .int .i64 0]) ∧ w'.ownsRow w.heap.size 3 1 (.slice A ids.length cc) ids.length (intsV (sortZs ids)) ∧ Below w.heap.size w w' := by
 obtain ⟨k, h1, h2, h3, hA⟩ := treeH_all h hT hn hl hps
 have HA := Lib.hid hA
 clear hA h hT h3 h1
 go_enter Tryz.func14, Tryz.ntmps14
 go_wp2_with (fail)
 go_must (refine HA.out.mono ?_)
 rintro e w1 ⟨b, sb, iv, rfl, hblk, hrow, hb⟩
 have c1 : w1.cell? ⟨b, 1, none⟩ = some iv := hblk.cell 1
 obtain ⟨A, cc, rfl, _⟩ := Sl.of_own hrow
 have HR := Lib.hid hrow
 clear hrow
 go_wp2_with (fail)
 refine bodyPost_ret (v := .tuple #[.slice A ids.length cc, .int .i64 0]) (by simp [results, Tryz.results14, go_sem]) rfl ?_
 exact ⟨A, cc, rfl, HR.out, hb⟩

theorem treeDel_bad (p : Nat) (root : Int) (key : Bytes) (w : World) (hk : key.length ≤ 9223372036854775807) (hbad : ¬ (1 ≤ key.length ∧ key.length ≤ 40)) :
  Calls Tryz.prog 19 #[ptrV p, .int .i64 root, strV key] w fun e w' => e = .returned (.tuple #[.int .i64 0, .int .i64 1]) ∧ w = w' := by
 have hG := isKey_any key w hk
 have e1 : (decide (1 ≤ key.length) && decide (key.length ≤ 40)) = false := by
  rw [Bool.and_eq_false_iff]
  simp only [decide_eq_false_iff_not]
  omega
 rw [e1] at hG
 have HG := Lib.hid hG
 clear hG e1
 go_enter Tryz.func19, Tryz.ntmps19
 go_wp2_with (fail)
 go_must (refine HG.out.mono ?_)
 rintro e w1 ⟨rfl, rfl⟩
 go_wp2_with (fail)
 refine bodyPost_ret (v := .tuple #[.int .i64 0, .int .i64 1]) (by simp [results, Tryz.results19, go_sem]) rfl ?_
 exact ⟨rfl, rfl⟩
end
end Go.Ev
