/-
  Operations on values that touch no memory; cells read and written.
-/
import Derived.Test.YthfdbfbfldmmaaaGreatDoorMEvOps3
set_option linter.unusedVariables false
set_option linter.unusedSimpArgs false
set_option linter.unusedVariables false
set_option linter.unusedSimpArgs false
namespace Go.Ev
open Go.RowKit (Below)
section
variable {B : World} {F : Nat → Option Obj} {σ : Sig} {D : Nat → Prop} {s : St} {w : World}
theorem isNat_of {v : AV} {n : Nat} (h : isNat v = some n) : ∃ k, v = .int k (.ofNat n) := by
  unfold isNat at h; split at h
  · cases h; exact ⟨_, rfl⟩
  · cases h
theorem isPtr_of {v : AV} {p : Nat × Nat} (h : isPtr v = some p) : v = .ptr p.1 p.2 := by
  unfold isPtr at h; split at h
  · cases h; rfl
  · cases h
theorem isAgg_of {v : AV} {l : List AV} (h : isAgg v = some l) : v = .agg l := by
  unfold isAgg at h; split at h
  · cases h; rfl
  · cases h
theorem isTup_of {v : AV} {l : List AV} (h : isTup v = some l) : v = .tup l := by
  unfold isTup at h; split at h
  · cases h; rfl
  · cases h
theorem isBool_of {v : AV} {b : Bool} (h : isBool v = some b) : v = .bool b := by
  unfold isBool at h; split at h
  · cases h; rfl
  · cases h
theorem unA_of {op : UnOp} {x v : AV} (h : unA op x = some v) (w : World) : (Op.unary op (conc σ x)).run PP w = .ok (conc σ v) w ∧ On D v := by
  unfold unA at h
  split at h
  · cases h; simp [Op.unary, conc, On]
  · cases h; simp [Op.unary, Op.intArith, conc, On]
  · have := bits_of (σ := σ) (D := D) h w
    simpa [Op.unary, conc] using this
  · cases h
theorem add_at (b o n : Nat) : (⟨b, o, none⟩ : Addr).add n = ⟨b, o + n, none⟩ := by unfold Addr.add; split <;> simp_all
theorem fieldAddrA_of {t : TypeId} {x v : AV} {f : Nat} (h : fieldAddrA t x f = some v) (hx : On D x) (w : World) : (Instr.fieldAt t (conc σ x) f).run PP w = .ok (conc σ v) w ∧ On D v := by
  (have ⟨fs, h1, hNew⟩ := oB_of h; replace h := hNew; clear hNew)
  (have ⟨p, h2, hNew⟩ := oB_of h; replace h := hNew; clear hNew)
  (have ⟨fd, h3, hNew⟩ := oB_of h; replace h := hNew; clear hNew)
  (have ⟨n, h4, hNew⟩ := oB_of h; replace h := hNew; clear hNew)
  (have ⟨h5, hNew⟩ := gd_of h; replace h := hNew; clear hNew)
  cases h
  obtain ⟨fa, rfl, hu⟩ := uStruct_of h1
  rw [isPtr_of h2] at hx ⊢
  rw [nth_eq] at h3
  have h3' : fa[f]? = some fd := by simpa using h3
  have hn : n ≠ 0 := by have := (nblt _ _).symm.trans h5; simp at this; omega
  refine ⟨?_, hx⟩
  simp [Instr.fieldAt, run_underlying hu, h3', conc, Instr.sureAddr, fieldPlace, sizeA_of h4, hn, add_at]
theorem fieldA_of {t : TypeId} {x v : AV} {f : Nat} (h : fieldA t x f = some v) (hx : On D x) (w : World) : (Instr.field t (conc σ x) f).run PP w = .ok (conc σ v) w ∧ On D v := by
  (have ⟨fs, h1, hNew⟩ := oB_of h; replace h := hNew; clear hNew)
  (have ⟨l, h2, hNew⟩ := oB_of h; replace h := hNew; clear hNew)
  (have ⟨fd, h3, hNew⟩ := oB_of h; replace h := hNew; clear hNew)
  obtain ⟨fa, rfl, hu⟩ := uStruct_of h1
  rw [isAgg_of h2] at hx ⊢
  simp only [On] at hx
  rw [nth_eq] at h3
  have h3' : fa[f]? = some fd := by simpa using h3
  obtain ⟨h4, h5⟩ := partA_of (σ := σ) h hx w
  refine ⟨?_, h5⟩
  simp [Instr.field, run_underlying hu, h3', conc, asAgg, h4]
theorem extractA_of {x v : AV} {i : Nat} (h : (oB (isTup x) fun l => nth l i) = some v) (hx : On D x) (w : World) : (Instr.extract (conc σ x) i).run PP w = .ok (conc σ v) w ∧ On D v := by
  (have ⟨l, h1, hNew⟩ := oB_of h; replace h := hNew; clear hNew)
  rw [isTup_of h1] at hx ⊢
  simp only [On] at hx
  obtain ⟨h2, h3⟩ := nth_conc (σ := σ) h hx
  exact ⟨by simp [Instr.extract, conc, h2], h3⟩
theorem indexAddrA_of {t : TypeId} {x i v : AV} (h : indexAddrA t x i = some v) (hx : On D x) (w : World) : (Instr.indexAt t (conc σ x) (conc σ i)).run PP w = .ok (conc σ v) w ∧ On D v := by
  (have ⟨k, h1, hNew⟩ := oB_of h; replace h := hNew; clear hNew)
  obtain ⟨ki, rfl⟩ := isNat_of h1
  split at h
  · rename_i b off len c
    (have ⟨e, h2, hNew⟩ := oB_of h; replace h := hNew; clear hNew)
    (have ⟨n, h3, hNew⟩ := oB_of h; replace h := hNew; clear hNew)
    (have ⟨h4, hNew⟩ := gd_of h; replace h := hNew; clear hNew)
    cases h
    have hk : k < len := by simpa [nblt] using h4
    have hu := uSlice_of h2
    refine ⟨?_, hx⟩
    cases c <;> simp [Instr.indexAt, conc, asIntOf, run_underlying hu, sizeA_of h3, add_at, hk]
  · rename_i b off
    (have ⟨e, h2, hNew⟩ := oB_of h; replace h := hNew; clear hNew)
    (have ⟨n, h3, hNew⟩ := oB_of h; replace h := hNew; clear hNew)
    (have ⟨h4, hNew⟩ := gd_of h; replace h := hNew; clear hNew)
    cases h
    have hk : k < e.1 := by simpa [nblt] using h4
    have hu := uArr_of h2
    refine ⟨?_, hx⟩
    simp [Instr.indexAt, conc, asIntOf, run_underlying hu, sizeA_of h3, add_at, hk, Instr.sureAddr]
  · cases h
theorem indexA_of {t : TypeId} {x i v : AV} (h : indexA t x i = some v) (hx : On D x) (w : World) : (Instr.index t (conc σ x) (conc σ i)).run PP w = .ok (conc σ v) w ∧ On D v := by
  (have ⟨k, h1, hNew⟩ := oB_of h; replace h := hNew; clear hNew)
  obtain ⟨ki, rfl⟩ := isNat_of h1
  split at h
  · rename_i l
    (have ⟨h2, hNew⟩ := gd_of h; replace h := hNew; clear hNew)
    (have ⟨b, h3, hNew⟩ := oB_of h; replace h := hNew; clear hNew)
    cases h
    have hu := uStr_of h2
    rw [nth_eq] at h3
    refine ⟨?_, by simp [On]⟩
    have hb : (⟨l.toArray⟩ : ByteArray)[k]? = some b := by
      obtain ⟨hk, hb⟩ := List.getElem?_eq_some_iff.1 h3
      have hk' : k < (⟨l.toArray⟩ : ByteArray).size := by simpa [ByteArray.size] using hk
      rw [getElem?_pos (⟨l.toArray⟩ : ByteArray) k hk']
      congr 1
    simp [Instr.index, conc, asIntOf, run_underlying hu, hb]
  · rename_i cs
    (have ⟨e, h2, hNew⟩ := oB_of h; replace h := hNew; clear hNew)
    (have ⟨n, h3, hNew⟩ := oB_of h; replace h := hNew; clear hNew)
    (have ⟨h4, hNew⟩ := gd_of h; replace h := hNew; clear hNew)
    have hk : k < e.1 := by simpa [nblt] using h4
    have hu := uArr_of h2
    simp only [On] at hx
    obtain ⟨h5, h6⟩ := partA_of (σ := σ) h hx w
    refine ⟨?_, h6⟩
    simp [Instr.index, conc, asIntOf, run_underlying hu, sizeA_of h3, hk, h5]
  · cases h
theorem uIface_of {t : TypeId} (h : uIface t = some false) : ∃ d, PP.underlying t = some d ∧ ∀ m, d ≠ .interface m := by
  unfold uIface at h
  split at h
  · cases h
  · rename_i d h1 h2; exact ⟨d, h2, fun m e => h1 m e⟩
  · cases h
theorem makeIfaceA_of {t : TypeId} {x v : AV} (h : makeIfaceA t x = some v) (hx : On D x) (w : World) : (Instr.makeInterface t (conc σ x)).run PP w = .ok (conc σ v) w ∧ On D v := by
  (have ⟨g, h1, hNew⟩ := oB_of h; replace h := hNew; clear hNew)
  (have ⟨h2, hNew⟩ := gd_of h; replace h := hNew; clear hNew)
  cases h
  obtain rfl : g = false := by simpa using h2
  obtain ⟨d, hu, hd⟩ := uIface_of h1
  refine ⟨?_, by simpa [On] using hx⟩
  simp only [Instr.makeInterface, Sem.run_bind, run_underlying hu, Result.andThen_ok]
  simp [conc]
theorem assertTo_of {zo : Option AV} {hit ok : Bool} {v r : AV} (h : assertTo zo hit ok v = some r) :
    (hit = true ∧ r = if ok then .tup [v, .bool true] else v) ∨ (hit = false ∧ ok = true ∧ ∃ z, zo = some z ∧ r = .tup [z, .bool false]) := by
  unfold assertTo at h
  cases hit with
  | true => rw [ifB_true] at h; cases h; left; cases ok <;> simp [ifB]
  | false =>
    rw [ifB_false] at h
    (have ⟨h1, hNew⟩ := gd_of h; replace h := hNew; clear hNew)
    (have ⟨z, h2, hNew⟩ := oB_of h; replace h := hNew; clear hNew)
    cases h
    exact .inr ⟨rfl, h1, z, h2, rfl⟩
theorem typeAssertA_of {t xt : TypeId} {x v : AV} {ok : Bool} (h : typeAssertA x t ok = some v) (hx : On D x) (w : World) : (Instr.typeAssert (conc σ x) xt t ok).run PP w = .ok (conc σ v) w ∧ On D v := by
  (have ⟨g, h1, hNew⟩ := oB_of h; replace h := hNew; clear hNew)
  (have ⟨h2, hNew⟩ := gd_of h; replace h := hNew; clear hNew)
  obtain rfl : g = false := by simpa using h2
  obtain ⟨d, hu, hd⟩ := uIface_of h1
  simp only [Instr.typeAssert, Sem.run_bind, run_underlying hu, Result.andThen_ok]
  split at h
  · rename_i t' v'
    simp only [conc]
    simp only [On] at hx
    have hm : ∀ k : Sem Value, (match d, (Value.iface t' (conc σ v')) with
      | .interface _, .nilIface => stuck ""
      | .interface want, .iface t _ => stuck ""
      | _, .nilIface => stuck ""
      | _, .iface t v => k
      | _, _ => stuck "") = k := by
      intro k
      cases d <;> first | rfl | exact absurd rfl (hd _)
    rcases assertTo_of h with ⟨a, rfl⟩ | ⟨a, rfl, z, hz, rfl⟩
    · have ht : t' = t := by simpa [nbeq] using a
      refine ⟨?_, by cases ok <;> simp [On, OnL, hx]⟩
      cases d <;> first | exact absurd rfl (hd _) | (simp only [ht, if_true, Sem.run_pure]; cases ok <;> simp [conc, concL])
    · have ht : t' ≠ t := by simpa [nbeq] using a
      have hz1 := zeroA_run hz σ w
      obtain ⟨_, _, _, hz2⟩ := zeroA_of (σ := σ) (D := D) hz
      refine ⟨?_, by simp [On, OnL, hz2]⟩
      cases d <;> first | exact absurd rfl (hd _) | simp [ht, hz1, conc, concL]
  · simp only [conc]
    rcases assertTo_of h with ⟨a, rfl⟩ | ⟨a, rfl, z, hz, rfl⟩
    · cases a
    · have hz1 := zeroA_run hz σ w
      obtain ⟨_, _, _, hz2⟩ := zeroA_of (σ := σ) (D := D) hz
      refine ⟨?_, by simp [On, OnL, hz2]⟩
      cases d <;> first | exact absurd rfl (hd _) | simp [hz1, conc, concL]
  · cases h
end
end Go.Ev
