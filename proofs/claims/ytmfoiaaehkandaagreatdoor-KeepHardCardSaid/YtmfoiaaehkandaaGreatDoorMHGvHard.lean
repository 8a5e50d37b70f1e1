/-
  Texts of this claim.
-/
import Derived.Test.YtmfoiaaehkandaaGreatDoorMHGvMin
import Derived.Lib.SmallJoins
set_option linter.unusedVariables false
set_option linter.unusedSimpArgs false
namespace Go.Ev
open Go.Joins Go.ChangeShapes Go.WideShapes Go.RowKit Go.Deep
def hdInt (P : Program) (f : Field) : Bool := match P.underlying f.type with | some (.int .i64) => true | _ => false
def hdB (P : Program) (t : TypeId) : Bool := P.cellsOf t == 3 && match P.underlying t with
 | some (.struct fs) => oneCellFields P fs && match fs.toList with
  | [f0, f1, f2] => hdInt P f0 && hdInt P f1 && hdInt P f2
  | _ => false
 | _ => false
theorem hdInt_of {P : Program} {f : Field} (h : hdInt P f = true) : P.underlying f.type = some (.int .i64) := by
 unfold hdInt at h; split at h <;> simp_all
section
variable {H : Type} {enc : TypeId × Value → H} {P : Program} {w : World} {base : Nat} {spare : Nat → Bool} {held : Bool}
theorem hd_int {t : TypeId} (ht : P.underlying t = some (.int .i64)) {n : Int} (hn : (Lit.int .i64 n).wf = true) (m : Nat) : DataW.trod enc P w base spare held (m + 1) t [.int .i64 n] = some (.lit (.int .i64 n), []) := by simp [DataW.trod, ht, hn]
theorem open_hard {r : Reach} {b0 : Nat} {t : TypeId} {v : Value} {d : DataW H} {p : List MemPlace} (hB : hdB P t = true) (hv : Value.okWide P w r b0 t v) (h : DataW.Trod enc P w base spare held t v d p) :
  ∃ (k s q : Int), v = .agg #[.int .i64 k, .int .i64 s, .int .i64 q] ∧ p = [] ∧ (Lit.int .i64 k).wf = true ∧ (Lit.int .i64 s).wf = true ∧ (Lit.int .i64 q).wf = true ∧
   ∀ (w' : World) (base' : Nat) (spare' : Nat → Bool) (held' : Bool), DataW.Trod enc P w' base' spare' held' t v d [] := by
 unfold hdB at hB
 simp only [Bool.and_eq_true, beq_iff_eq] at hB
 obtain ⟨hC, hB⟩ := hB
 split at hB
 ·rename_i fs hs
  simp only [Bool.and_eq_true] at hB
  obtain ⟨hone, hB⟩ := hB
  split at hB
  ·rename_i f0 f1 f2 hf
   simp only [Bool.and_eq_true] at hB
   obtain ⟨⟨i0, i1⟩, i2⟩ := hB
   obtain ⟨l⟩ := fs
   simp at hf
   subst hf
   obtain ⟨cs, rfl, hsz⟩ := okWide_struct hs hv
   obtain ⟨cl⟩ := cs
   rw [hC] at hsz
   match cl, hsz with
   | [c0, c1, c2], _ =>
    obtain ⟨fuel, hf⟩ := h
    obtain ⟨xs, n, _, hx, _, hlen, hg⟩ := DataW.trod_struct hs hf
    obtain ⟨o0, k0⟩ := hone_of hone 0 f0 rfl
    obtain ⟨o1, k1⟩ := hone_of hone 1 f1 rfl
    obtain ⟨o2, k2⟩ := hone_of hone 2 f2 rfl
    match xs, hlen with
    | [y0, y1, y2], _ =>
     have g0 : DataW.trod enc P w base spare held n f0.type [c0] = some y0 := by simpa [Value.cells, o0, k0] using hg 0 f0 rfl
     have g1 : DataW.trod enc P w base spare held n f1.type [c1] = some y1 := by simpa [Value.cells, o1, k1] using hg 1 f1 rfl
     have g2 : DataW.trod enc P w base spare held n f2.type [c2] = some y2 := by simpa [Value.cells, o2, k2] using hg 2 f2 rfl
     obtain ⟨k, e0, rfl, w0⟩ := DataW.trod_int (hdInt_of i0) g0
     obtain ⟨s, e1, rfl, w1⟩ := DataW.trod_int (hdInt_of i1) g1
     obtain ⟨q, e2, rfl, w2⟩ := DataW.trod_int (hdInt_of i2) g2
     simp only [List.cons.injEq, and_true] at e0 e1 e2
     subst e0 e1 e2
     simp only [Prod.mk.injEq, List.map_cons, List.map_nil, List.flatMap_cons, List.flatMap_nil, List.append_nil] at hx
     obtain ⟨rfl, rfl⟩ := hx
     refine ⟨k, s, q, rfl, rfl, w0, w1, w2, fun w' base' spare' held' => ⟨2, ?_⟩⟩
     have := trod_struct_mk (enc := enc) (w := w') (base := base') (spare := spare') (held := held') (n := 1) (cs := [.int .i64 k, .int .i64 s, .int .i64 q])
      (xs := [(.lit (.int .i64 k), []), (.lit (.int .i64 s), []), (.lit (.int .i64 q), [])]) hs (by simp [hC])
      (by simp [o0, o1, o2, k0, k1, k2, hd_int (hdInt_of i0) w0 0, hd_int (hdInt_of i1) w1 0, hd_int (hdInt_of i2) w2 0])
     simpa [Value.cells] using this
  ·cases hB
 ·cases hB
end
end Go.Ev
