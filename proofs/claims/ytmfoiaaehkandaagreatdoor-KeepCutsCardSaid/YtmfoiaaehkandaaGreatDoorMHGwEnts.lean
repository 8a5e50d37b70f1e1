/-
  Texts of this claim.
-/
import Derived.Test.YtmfoiaaehkandaaGreatDoorMHGwCuts
set_option linter.unusedVariables false
set_option linter.unusedSimpArgs false
namespace Go.Ev
open Go.Proofs Go.RowKit
section
open Go.ChangeShapes Go.WideShapes
variable {H : Type} {enc : TypeId × Value → H} {P : Program} {w : World} {base : Nat} {spare : Nat → Bool} {held : Bool}
theorem slice_ents {t e : TypeId} {gs : Array Field} {fuel : Nat} {v : Value} {y : DataW H × List MemPlace} (ht : P.underlying t = some (.slice e)) (he : P.underlying e = some (.struct gs)) (hC : P.cellsOf e = 4)
  {g0 g1 g2 g3 : Field} (h0 : gs[0]? = some g0) (h1 : gs[1]? = some g1) (h2 : gs[2]? = some g2) (h3 : gs[3]? = some g3) (o0 : g0.offset = 0) (o1 : g1.offset = 1) (o2 : g2.offset = 2) (o3 : g3.offset = 3)
  (c0 : P.cellsOf g0.type = 1) (c1 : P.cellsOf g1.type = 1) (c2 : P.cellsOf g2.type = 1) (c3 : P.cellsOf g3.type = 1)
  (t0 : P.underlying g0.type = some (.int .i64)) (t1 : P.underlying g1.type = some (.int .i64)) (t2 : P.underlying g2.type = some (.int .i64)) (t3 : P.underlying g3.type = some .string)
  (h : DataW.trod enc P w base spare held fuel t [v] = some y) : ∃ l, EntsAt w v l := by
 suffices hh : ∃ l : List LogE, Sl w 4 v l.length (l.flatMap entCs) ∧ l.length ≤ maxLen ∧ ∀ o ∈ l, I64 o.idx ∧ I64 o.term ∧ I64 o.kind ∧ o.data.length ≤ maxLen by
  obtain ⟨l, q1, q2, q3⟩ := hh
  exact ⟨l, q1, q2, q3⟩
 refine slice_rows (f := entCs) (Q := fun o => I64 o.idx ∧ I64 o.term ∧ I64 o.kind ∧ o.data.length ≤ maxLen) ht hC (by omega) entCs_len (fun n' cs x hl hx => ?_) h
 match cs, hl with
 | [a0, a1, a2, a3], _ =>
  obtain ⟨xs, n1, _, _, _, hxl, hf⟩ := DataW.trod_struct he hx
  have hgs : 3 < gs.size := (Array.getElem?_eq_some_iff.1 h3).1
  have f0 := hf 0 g0 h0
  have f1 := hf 1 g1 h1
  have f2 := hf 2 g2 h2
  have f3 := hf 3 g3 h3
  rw [o0, c0, List.getElem?_eq_getElem (by omega)] at f0
  rw [o1, c1, List.getElem?_eq_getElem (by omega)] at f1
  rw [o2, c2, List.getElem?_eq_getElem (by omega)] at f2
  rw [o3, c3, List.getElem?_eq_getElem (by omega)] at f3
  obtain ⟨z0, e0, _, b0⟩ := DataW.trod_int t0 f0
  obtain ⟨z1, e1, _, b1⟩ := DataW.trod_int t1 f1
  obtain ⟨z2, e2, _, b2⟩ := DataW.trod_int t2 f2
  obtain ⟨z3, e3, _, b3⟩ := DataW.trod_string t3 f3
  simp at e0 e1 e2 e3
  subst e0 e1 e2 e3
  exact ⟨⟨z0, z1, z2, z3.data.toList⟩, by simp [entCs], i64_wfE b0, i64_wfE b1, i64_wfE b2, b3⟩
end
end Go.Ev
