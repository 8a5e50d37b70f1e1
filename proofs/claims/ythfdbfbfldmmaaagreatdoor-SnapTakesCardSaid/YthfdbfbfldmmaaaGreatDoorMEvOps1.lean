/-
  Operands, types, and the operations that touch no memory.
-/
import Derived.Test.YthfdbfbfldmmaaaGreatDoorMEvMem
set_option linter.unusedVariables false
set_option linter.unusedSimpArgs false
set_option linter.unusedVariables false
set_option linter.unusedSimpArgs false
namespace Go.Ev
open Go.RowKit (Below)
section
variable {B : World} {F : Nat → Option Obj} {σ : Sig} {D : Nat → Prop} {s : St} {w : World}
mutual
theorem absV_of (σ : Sig) (D : Nat → Prop) : ∀ (d : Nat) (v : Value) (a : AV), absV d v = some a → conc σ a = v ∧ On D a
  | 0, _, _, h => by simp [absV] at h
  | d + 1, .bool b, a, h => by simp [absV] at h; subst h; simp [conc, On]
  | d + 1, .int k n, a, h => by simp [absV] at h; subst h; simp [conc, On]
  | d + 1, .string t, a, h => by simp [absV] at h; subst h; simp [conc, On]
  | d + 1, .pointer none, a, h => by simp [absV] at h; subst h; simp [conc, On]
  | d + 1, .pointer (some _), a, h => by simp [absV] at h
  | d + 1, .slice none 0 0, a, h => by simp [absV] at h; subst h; simp [conc, On]
  | d + 1, .slice none 0 (_ + 1), a, h => by simp [absV] at h
  | d + 1, .slice none (_ + 1) _, a, h => by simp [absV] at h
  | d + 1, .slice (some _) _ _, a, h => by simp [absV] at h
  | d + 1, .map none, a, h => by simp [absV] at h; subst h; simp [conc, On]
  | d + 1, .map (some _), a, h => by simp [absV] at h
  | d + 1, .chan none, a, h => by simp [absV] at h; subst h; simp [conc, On]
  | d + 1, .chan (some _), a, h => by simp [absV] at h
  | d + 1, .nilFunc, a, h => by simp [absV] at h; subst h; simp [conc, On]
  | d + 1, .nilIface, a, h => by simp [absV] at h; subst h; simp [conc, On]
  | d + 1, .float _ _, a, h => by simp [absV] at h
  | d + 1, .complex _ _ _, a, h => by simp [absV] at h
  | d + 1, .func _ _ _, a, h => by simp [absV] at h
  | d + 1, .iface t v, a, h => by
    simp only [absV] at h
    obtain ⟨x, h1, h2⟩ := oB_of h
    cases h2
    have := absV_of σ D d v x h1
    simp [conc, On, this]
  | d + 1, .agg cs, a, h => by
    simp only [absV] at h
    obtain ⟨x, h1, h2⟩ := oB_of h
    cases h2
    have := absL_of σ D d cs.toList x h1
    simp [conc, On, this]
  | d + 1, .tuple cs, a, h => by
    simp only [absV] at h
    obtain ⟨x, h1, h2⟩ := oB_of h
    cases h2
    have := absL_of σ D d cs.toList x h1
    simp [conc, On, this]
theorem absL_of (σ : Sig) (D : Nat → Prop) : ∀ (d : Nat) (l : List Value) (a : List AV), absL d l = some a → concL σ a = l ∧ OnL D a
  | d, [], a, h => by cases d <;> simp [absL] at h <;> subst h <;> simp [concL, OnL]
  | 0, _ :: _, a, h => by simp [absL] at h
  | d + 1, v :: l, a, h => by
    simp only [absL] at h
    obtain ⟨x, h1, h2⟩ := oB_of h
    obtain ⟨r, h3, h4⟩ := oB_of h2
    cases h4
    have h5 := absV_of σ D d v x h1
    have h6 := absL_of σ D d l r h3
    simp [concL, OnL, h5, h6]
end
theorem constA_of {v : Value} {a : AV} (h : constA v = some a) : conc σ a = v ∧ On D a := by
  cases v <;> simp only [constA] at h
  case bool => cases h; simp [conc, On]
  case int => cases h; simp [conc, On]
  case string => cases h; simp [conc, On]
  all_goals exact absV_of σ D _ _ _ h
theorem ev_of {n : Nat} {tm : T AV} {a : Act} (ht : Tm σ D n tm a.tmps) {x : Operand} {v : AV} (h : ev x tm = some v) : a.eval x = conc σ v ∧ On D v := by
  cases x with
  | tmp t => cases h; exact ⟨ht.val t, ht.on t⟩
  | const c => obtain ⟨h1, h2⟩ := constA_of (σ := σ) (D := D) h; exact ⟨h1.symm, h2⟩
  | func f => cases h; simp [Act.eval, conc, On, concL, OnL]
  | global g => cases h
/-! ### Types -/
theorem uSlice_of {t e : TypeId} (h : uSlice t = some e) : PP.underlying t = some (.slice e) := by
  unfold uSlice at h; split at h <;> simp_all
theorem uStruct_of {t : TypeId} {fs : List Field} (h : uStruct t = some fs) : ∃ fa : Array Field, fa.toList = fs ∧ PP.underlying t = some (.struct fa) := by
  unfold uStruct at h; split at h
  · rename_i fa hu; cases h; exact ⟨fa, rfl, hu⟩
  · cases h
theorem uMap_of {t : TypeId} {ke : TypeId × TypeId} (h : uMap t = some ke) : PP.underlying t = some (.map ke.1 ke.2) := by
  unfold uMap at h; split at h <;> simp_all; cases h; simp_all
theorem uArr_of {t : TypeId} {ke : Nat × TypeId} (h : uArr t = some ke) : PP.underlying t = some (.array ke.1 ke.2) := by
  unfold uArr at h; split at h <;> simp_all; cases h; simp_all
theorem uPtr_of {t e : TypeId} (h : uPtr t = some e) : PP.underlying t = some (.pointer e) := by
  unfold uPtr at h; split at h <;> simp_all
theorem uChan_of {t e : TypeId} (h : uChan t = some e) : ∃ d, PP.underlying t = some (.chan d e) := by
  unfold uChan at h; split at h
  · rename_i d e' hu; cases h; exact ⟨d, hu⟩
  · cases h
theorem uStr_of {t : TypeId} (h : uStr t = true) : PP.underlying t = some .string := by
  unfold uStr at h; split at h <;> simp_all
theorem uInt_of {t : TypeId} {k : IntKind} (h : uInt t = some k) : PP.underlying t = some (.int k) := by
  unfold uInt at h; split at h <;> simp_all
theorem uByte_of {t : TypeId} (h : uByte t = true) : PP.underlying t = some (.int .u8) := by
  unfold uByte at h; split at h <;> simp_all
theorem uUnsafe_of {t : TypeId} (h : uUnsafe t = true) : PP.underlying t = some .unsafePointer := by
  unfold uUnsafe at h; split at h <;> simp_all
theorem sizeA_of {t : TypeId} {n : Nat} (h : sizeA t = some n) (w : World) : (sizeOf t).run PP w = .ok n w := by
  obtain ⟨i, h1, h2⟩ := oB_of h
  cases h2
  simp [sizeOf, typeInfo, h1]
theorem bytesA_of {t : TypeId} {n : Nat} (h : bytesA t = some n) : ∃ i, PP.info? t = some i ∧ i.bytes = n := by
  obtain ⟨i, h1, h2⟩ := oB_of h
  cases h2
  exact ⟨i, h1, rfl⟩
theorem zeroA_of {t : TypeId} {z : AV} (h : zeroA t = some z) : ∃ i, PP.info? t = some i ∧ i.zero = some (conc σ z) ∧ On D z := by
  obtain ⟨i, h1, h2⟩ := oB_of h
  obtain ⟨v, h3, h4⟩ := oB_of h2
  obtain ⟨h5, h6⟩ := absV_of σ D _ _ _ h4
  exact ⟨i, h1, by rw [h3, h5], h6⟩
theorem zeroA_run {t : TypeId} {z : AV} (h : zeroA t = some z) (σ : Sig) (w : World) : (zeroValue t).run PP w = .ok (conc σ z) w := by
  obtain ⟨i, h1, h2, _⟩ := zeroA_of (σ := σ) (D := fun _ => True) h
  simp [zeroValue, typeInfo, h1, h2]
theorem isAggB_of {t : TypeId} {b : Bool} (h : isAggB t = some b) (w : World) : (Go.isAgg t).run PP w = .ok b w := by
  unfold isAggB at h
  split at h
  · rename_i hu; cases h; simp [Go.isAgg, run_underlying hu]
  · rename_i hu; cases h; simp [Go.isAgg, run_underlying hu]
  · rename_i d h1 h2 hu
    cases h
    simp only [Go.isAgg, Sem.run_bind, run_underlying hu, Result.andThen_ok]
    cases d <;> simp_all
  · cases h
theorem cells_conc (v : AV) : (conc σ v).cells = (concL σ v.cells).toArray := by
  cases v <;> simp [conc, Value.cells, AV.cells, concL]
  rename_i c; cases c <;> simp [conc]
theorem cells_on {v : AV} (h : On D v) : OnL D v.cells := by
  cases v <;> simp only [AV.cells, OnL, and_true] <;> first | exact h | (simpa [On] using h)
theorem concL_length (l : List AV) : (concL σ l).length = l.length := by rw [concL_eq, List.length_map]
theorem concL_append (l r : List AV) : concL σ (l ++ r) = concL σ l ++ concL σ r := by simp [concL_eq]
theorem onL_append {l r : List AV} : OnL D (l ++ r) ↔ OnL D l ∧ OnL D r := by
  simp only [onL_iff, List.mem_append]
  constructor
  · intro h; exact ⟨fun v hv => h v (.inl hv), fun v hv => h v (.inr hv)⟩
  · rintro ⟨h1, h2⟩ v (hv | hv)
    · exact h1 v hv
    · exact h2 v hv
theorem nth_conc {l : List AV} {k : Nat} {v : AV} (h : nth l k = some v) (ho : OnL D l) : (concL σ l)[k]? = some (conc σ v) ∧ On D v := by
  rw [nth_eq] at h
  exact ⟨by rw [concL_eq, List.getElem?_map, h]; rfl, (onL_iff _ _).1 ho v (List.mem_of_getElem? h)⟩
theorem partA_of {t : TypeId} {l : List AV} {off : Nat} {v : AV} (h : partA t l off = some v) (ho : OnL D l) (w : World) : (part t (concL σ l).toArray off).run PP w = .ok (conc σ v) w ∧ On D v := by
  obtain ⟨b, hb, h⟩ := oB_of h
  cases b with
  | true =>
    rw [ifB_true] at h
    obtain ⟨n, hn, h⟩ := oB_of h
    obtain ⟨r, hr, h⟩ := oB_of h
    cases h
    obtain ⟨h1, h2, rfl⟩ := (cut_some _ _ _ _).1 hr
    refine ⟨?_, ?_⟩
    · simp only [part, Sem.run_bind, isAggB_of hb, sizeA_of hn, Result.andThen_ok, if_true, Sem.run_pure, conc]
      congr 2
      apply Array.ext'
      simp [concL_eq, List.extract_eq_take_drop, ← List.map_drop, ← List.map_take]
    · simp only [On]
      rw [onL_iff] at ho ⊢
      exact fun v hv => ho v (List.mem_of_mem_drop (List.mem_of_mem_take hv))
  | false =>
    rw [ifB_false] at h
    obtain ⟨h1, h2⟩ := nth_conc (σ := σ) h ho
    refine ⟨?_, h2⟩
    simp only [part, Sem.run_bind, isAggB_of hb, Result.andThen_ok, Bool.false_eq_true, if_false, List.getElem?_toArray, h1, Sem.run_pure]
end
end Go.Ev
