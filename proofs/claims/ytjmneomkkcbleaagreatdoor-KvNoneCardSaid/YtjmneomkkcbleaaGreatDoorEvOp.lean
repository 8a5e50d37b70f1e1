/-
  A struct of three ints and three strings, by value: what its reading says, and that it reads so in every world.
-/
import Derived.Lib.SmallJoins
namespace Go.Ev
open Go.Joins Go.ChangeShapes Go.WideShapes Go.RowKit Go.Deep

def opStr (P : Program) (f : Field) : Bool := match P.underlying f.type with | some .string => true | _ => false
def opInt (P : Program) (f : Field) : Bool := match P.underlying f.type with | some (.int .i64) => true | _ => false
def opB (P : Program) (t : TypeId) : Bool := P.cellsOf t == 6 && match P.underlying t with
  | some (.struct fs) => oneCellFields P fs && match fs.toList with
    | [f0, f1, f2, f3, f4, f5] => opInt P f0 && opInt P f1 && opInt P f2 && opStr P f3 && opStr P f4 && opStr P f5
    | _ => false
  | _ => false

theorem opStr_of {P : Program} {f : Field} (h : opStr P f = true) : P.underlying f.type = some .string := by
  unfold opStr at h; split at h <;> simp_all
theorem opInt_of {P : Program} {f : Field} (h : opInt P f = true) : P.underlying f.type = some (.int .i64) := by
  unfold opInt at h; split at h <;> simp_all

section
variable {H : Type} {enc : TypeId × Value → H} {P : Program} {w : World} {base : Nat} {spare : Nat → Bool} {held : Bool}

theorem op_int {t : TypeId} (ht : P.underlying t = some (.int .i64)) {n : Int} (hn : (Lit.int .i64 n).wf = true) (m : Nat) : DataW.trod enc P w base spare held (m + 1) t [.int .i64 n] = some (.lit (.int .i64 n), []) := by simp [DataW.trod, ht, hn]
theorem op_str {t : TypeId} (ht : P.underlying t = some .string) {s : ByteArray} (hs : s.size ≤ maxLen) (m : Nat) : DataW.trod enc P w base spare held (m + 1) t [.string s] = some (.lit (.string s.data.toList), []) := by simp [DataW.trod, ht, hs]

theorem open_op {r : Reach} {b0 : Nat} {t : TypeId} {v : Value} {d : DataW H} {p : List MemPlace} (hB : opB P t = true) (hv : Value.okWide P w r b0 t v) (h : DataW.Trod enc P w base spare held t v d p) :
    ∃ (k s q : Int) (a b c : ByteArray), v = .agg #[.int .i64 k, .int .i64 s, .int .i64 q, .string a, .string b, .string c] ∧ p = [] ∧ a.size ≤ maxLen ∧ b.size ≤ maxLen ∧ c.size ≤ maxLen ∧
      ∀ (w' : World) (base' : Nat) (spare' : Nat → Bool) (held' : Bool), DataW.Trod enc P w' base' spare' held' t v d [] := by
  unfold opB at hB
  simp only [Bool.and_eq_true, beq_iff_eq] at hB
  obtain ⟨hC, hB⟩ := hB
  split at hB
  · rename_i fs hs
    simp only [Bool.and_eq_true] at hB
    obtain ⟨hone, hB⟩ := hB
    split at hB
    · rename_i f0 f1 f2 f3 f4 f5 hf
      simp only [Bool.and_eq_true] at hB
      obtain ⟨⟨⟨⟨⟨i0, i1⟩, i2⟩, s3⟩, s4⟩, s5⟩ := hB
      obtain ⟨l⟩ := fs
      simp at hf
      subst hf
      obtain ⟨cs, rfl, hsz⟩ := okWide_struct hs hv
      obtain ⟨cl⟩ := cs
      rw [hC] at hsz
      match cl, hsz with
      | [c0, c1, c2, c3, c4, c5], _ =>
        obtain ⟨fuel, hf⟩ := h
        obtain ⟨xs, n, _, hx, _, hlen, hg⟩ := DataW.trod_struct hs hf
        obtain ⟨o0, k0⟩ := hone_of hone 0 f0 rfl
        obtain ⟨o1, k1⟩ := hone_of hone 1 f1 rfl
        obtain ⟨o2, k2⟩ := hone_of hone 2 f2 rfl
        obtain ⟨o3, k3⟩ := hone_of hone 3 f3 rfl
        obtain ⟨o4, k4⟩ := hone_of hone 4 f4 rfl
        obtain ⟨o5, k5⟩ := hone_of hone 5 f5 rfl
        match xs, hlen with
        | [y0, y1, y2, y3, y4, y5], _ =>
          have g0 : DataW.trod enc P w base spare held n f0.type [c0] = some y0 := by simpa [Value.cells, o0, k0] using hg 0 f0 rfl
          have g1 : DataW.trod enc P w base spare held n f1.type [c1] = some y1 := by simpa [Value.cells, o1, k1] using hg 1 f1 rfl
          have g2 : DataW.trod enc P w base spare held n f2.type [c2] = some y2 := by simpa [Value.cells, o2, k2] using hg 2 f2 rfl
          have g3 : DataW.trod enc P w base spare held n f3.type [c3] = some y3 := by simpa [Value.cells, o3, k3] using hg 3 f3 rfl
          have g4 : DataW.trod enc P w base spare held n f4.type [c4] = some y4 := by simpa [Value.cells, o4, k4] using hg 4 f4 rfl
          have g5 : DataW.trod enc P w base spare held n f5.type [c5] = some y5 := by simpa [Value.cells, o5, k5] using hg 5 f5 rfl
          obtain ⟨k, e0, rfl, w0⟩ := DataW.trod_int (opInt_of i0) g0
          obtain ⟨s, e1, rfl, w1⟩ := DataW.trod_int (opInt_of i1) g1
          obtain ⟨q, e2, rfl, w2⟩ := DataW.trod_int (opInt_of i2) g2
          obtain ⟨a, e3, rfl, w3⟩ := DataW.trod_string (opStr_of s3) g3
          obtain ⟨b, e4, rfl, w4⟩ := DataW.trod_string (opStr_of s4) g4
          obtain ⟨c, e5, rfl, w5⟩ := DataW.trod_string (opStr_of s5) g5
          simp only [List.cons.injEq, and_true] at e0 e1 e2 e3 e4 e5
          subst e0 e1 e2 e3 e4 e5
          simp only [Prod.mk.injEq, List.map_cons, List.map_nil, List.flatMap_cons, List.flatMap_nil, List.append_nil] at hx
          obtain ⟨rfl, rfl⟩ := hx
          refine ⟨k, s, q, a, b, c, rfl, rfl, w3, w4, w5, fun w' base' spare' held' => ⟨2, ?_⟩⟩
          have := trod_struct_mk (enc := enc) (w := w') (base := base') (spare := spare') (held := held') (n := 1) (cs := [.int .i64 k, .int .i64 s, .int .i64 q, .string a, .string b, .string c])
            (xs := [(.lit (.int .i64 k), []), (.lit (.int .i64 s), []), (.lit (.int .i64 q), []), (.lit (.string a.data.toList), []), (.lit (.string b.data.toList), []), (.lit (.string c.data.toList), [])]) hs (by simp [hC])
            (by simp [o0, o1, o2, o3, o4, o5, k0, k1, k2, k3, k4, k5, op_int (opInt_of i0) w0 0, op_int (opInt_of i1) w1 0, op_int (opInt_of i2) w2 0, op_str (opStr_of s3) w3 0, op_str (opStr_of s4) w4 0, op_str (opStr_of s5) w5 0])
          simpa [Value.cells] using this
    · cases hB
  · cases hB
end
end Go.Ev
