/-
  Buckets.
-/
import Derived.Test.YtoemhefcmibjpaaGreatDoorMGwPutG
import Derived.Test.YtoemhefcmibjpaaGreatDoorMGwDelG
import Derived.Test.YtoemhefcmibjpaaGreatDoorMGwAll
import Derived.Test.YtoemhefcmibjpaaGreatDoorMGwWalkLaw
set_option linter.unusedVariables false
set_option linter.unusedSimpArgs false
set_option linter.unusedVariables false
set_option linter.unusedSimpArgs false
namespace Go.Ev
open Go.Proofs Go.RowKit
section
variable {p most cnt : Nat} {c : Pc} {M : Store}
theorem treeH_all {root : Int} {ps : List Pair} {ids : List Int} {n : Nat} {w : World} (h : PgOk w p c most M cnt) (hT : TreeH M root ps ids n) (hn : n ≤ 20000) (hl : ids.length ≤ 90000) (hps : ps.length ≤ 90000) :
  ∃ k : Nat, (n ≤ 250 → k ≤ 10) ∧ k + 1 ≤ ids.length ∧ (ps = [] → k = 0) ∧ Calls Tryz.prog 97 #[ptrV p, .int .i64 root] w (AllP p ids ((k : Int) + 1) (ps.length : Int) w) := by
 obtain ⟨⟨k, S, h1, h2⟩, h3, h4⟩ := hT
 have hk := h2.high17 hn
 exact ⟨k, h2.high, h1.tree.levels, fun e => by subst e; exact h1.tree.empty.1, all_ok root k ps ids w h h1 h4 h3 (by omega) (by omega) (by omega)⟩
theorem pagesG_ok (root : Int) (ps : List Pair) (ids : List Int) (n : Nat) (w : World) (h : PgOk w p c most M cnt) (hT : TreeH M root ps ids n) (hn : n ≤ 20000) (hl : ids.length ≤ 90000) (hps : ps.length ≤ 90000) :
  Calls Tryz.prog 54 #[ptrV p, .int .i64 root] w fun e w' => ∃ A cc, e = .returned (.tuple #[.slice A ids.length cc, .int .i64 0]) ∧ w'.ownsRow w.heap.size 3 1 (.slice A ids.length cc) ids.length (intsV (sortZs ids)) ∧ Below w.heap.size w w' := by
 obtain ⟨k, h1, h2, h3, hA⟩ := treeH_all h hT hn hl hps
 have HA := Lib.hid hA
 clear hA h hT h3 h1
 go_enter Tryz.func54, Tryz.ntmps54
 go_wp2_with (fail)
 go_must (refine HA.out.mono ?_)
 rintro e w1 ⟨b, sb, iv, rfl, hblk, hrow, hb⟩
 have c1 : w1.cell? ⟨b, 1, none⟩ = some iv := hblk.cell 1
 obtain ⟨A, cc, rfl, _⟩ := Sl.of_own hrow
 have HR := Lib.hid hrow
 clear hrow
 go_wp2_with (fail)
 refine bodyPost_ret (v := .tuple #[.slice A ids.length cc, .int .i64 0]) (by simp [results, Tryz.results54, go_sem]) rfl ?_
 exact ⟨A, cc, rfl, HR.out, hb⟩
end
end Go.Ev
