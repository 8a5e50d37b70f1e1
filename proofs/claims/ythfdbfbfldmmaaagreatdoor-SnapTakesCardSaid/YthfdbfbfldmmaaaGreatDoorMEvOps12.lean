/-
  Calls; one operation, whole.
-/
import Derived.Test.YthfdbfbfldmmaaaGreatDoorMEvOps11
import Derived.Lib.MakeNoZero
set_option linter.unusedVariables false
set_option linter.unusedSimpArgs false
set_option linter.unusedVariables false
set_option linter.unusedSimpArgs false
namespace Go.Ev
open Go.RowKit (Below)
structure Facts : Prop where
  ng : ∀ (f : FuncId) (fn : Func), PP.funcs[f]? = some fn → (fn.name == "runtime.NumGoroutine") = false
  ne : ∀ (f : FuncId) (fn : Func), PP.funcs[f]? = some fn → fn.body.isSome = false → fn.name = "internal/abi.NoEscape" → Extern.findNext fn = none ∧ Extern.find fn = some Extern.AbiNoEscape.same
  mz : ∀ (f : FuncId) (fn : Func), PP.funcs[f]? = some fn → fn.body.isSome = false → fn.name = "internal/bytealg.MakeNoZero" → Extern.findNext fn = none ∧ Extern.find fn = some (Extern.BytealgMakeNoZero.makeNoZero fn.params fn.resultTypes) ∧ ∃ t, fn.resultTypes = #[t]
section
variable {B : World} {F : Nat → Option Obj} {σ : Sig} {D : Nat → Prop} {s : St} {w : World}
def OpOk (B : World) (F : Nat → Option Obj) (σ : Sig) (D : Nat → Prop) (s : St) (w : World) (m : Sem Next) : AN → Prop
  | .val v s' => ∃ σ' D' w', (m.run PP w = .ok (.value (conc σ' v)) w' ∨ (v = undefA ∧ m.run PP w = .ok .skip w')) ∧ Good B F σ' D' s' w' ∧ Ext σ D σ' D' ∧ On D' v
  | .enter f args s' => s' = s ∧ m.run PP w = .ok (.enter f (concL σ args).toArray) w ∧ OnL D args
  | .round b args s' => s' = s ∧ m.run PP w = (Instr.yield (σ b).b (concL σ args).toArray).run PP w ∧ OnL D args ∧ D b
theorem OpOk.of_res {m : Sem Value} {n : Sem Next} {v : AV} {s' : St} (h : Res B F σ D w m v s') (hn : n = do pure (.value (← m))) : OpOk B F σ D s w n (.val v s') := by
  obtain ⟨σ', D', w', h1, h2, h3, h4⟩ := h
  refine ⟨σ', D', w', .inl ?_, h2, h3, h4⟩
  rw [hn]
  simp [h1]
theorem OpOk.of_unit {m : Sem Unit} {n : Sem Next} {s' : St} (h : ∃ w', m.run PP w = .ok () w' ∧ Good B F σ D s' w') (hn : n = do m; pure .skip) : OpOk B F σ D s w n (.val undefA s') := by
  obtain ⟨w', h1, h2⟩ := h
  refine ⟨σ, D, w', .inr ⟨rfl, ?_⟩, h2, Ext.refl _ _, by simp [undefA, On, OnL]⟩
  rw [hn]
  simp [h1]
theorem same_def (x : Value) : Extern.AbiNoEscape.same #[x] = pure x := rfl
theorem wrap_def (t : TypeId) (a : Addr) (x y : ByteArray) : Builtin.ssaWrapNilChk_ #[t] t #[.pointer (some a), .string x, .string y] = pure (.pointer (some a)) := rfl
theorem makeNoZeroA_of {fn : Func} {args : List AV} {p : AV × St} (g : Good B F σ D s w) (h : makeNoZeroA s fn args = some p) (hr : ∃ t, fn.resultTypes = #[t]) :
    Res B F σ D w (Extern.BytealgMakeNoZero.makeNoZero fn.params fn.resultTypes (concL σ args).toArray) p.1 p.2 := by
  unfold makeNoZeroA at h
  split at h
  · rename_i n
    (have ⟨t, h1, hNew⟩ := oB_of h; replace h := hNew; clear hNew)
    (have ⟨e, h2, hNew⟩ := oB_of h; replace h := hNew; clear hNew)
    (have ⟨h3, hNew⟩ := gd_of h; replace h := hNew; clear hNew)
    have h3 : n ≤ 4294967296 := by simpa [nble] using h3
    obtain ⟨t', hr⟩ := hr
    rw [hr] at h1 ⊢
    have h1 : t' = t := by simpa using h1
    subst h1
    obtain ⟨arr, hrun, _, _⟩ := Lib.run_makeNoZero (P := PP) w fn.params t' e (uSlice_of h2) n (by omega)
    obtain ⟨w1, hw1⟩ : ∃ w1 : World, w1 = w.drew.drew := ⟨_, rfl⟩
    have g1 : Good B F σ D s w1 := by rw [hw1]; exact drew_good (drew_good g)
    obtain ⟨σ', D', k1, k2, k3, k4⟩ := grownA_of g1 h (by omega) (by simp [OnL]) arr arr.size ⟨arr.toList, by simp [concL]⟩ (by simp)
    refine ⟨σ', D', _, ?_, k4, k1, k2⟩
    have hh : w1.heap.size = w.heap.size := by rw [hw1]; rfl
    rw [k3]
    simp only [concL, conc]
    rw [show (Int.ofNat n : Int) = (n : Int) from rfl, hrun, ← hw1, hh]
  · cases h
theorem callFuncA_of (hF : Facts) {f : FuncId} {args : List AV} {a : AN} (g : Good B F σ D s w) (h : callFuncA s f args = some a) (ho : OnL D args) :
    OpOk B F σ D s w (callFunc f (concL σ args).toArray) a := by
  (have ⟨fn, h1, hNew⟩ := oB_of h; replace h := hNew; clear hNew)
  have hng := hF.ng f fn h1
  cases hb : fn.body.isSome with
  | true =>
    rw [hb, ifB_true] at h
    cases h
    have hb' : fn.body.isNone = false := by cases q : fn.body <;> simp_all
    refine ⟨rfl, ?_, ho⟩
    simp only [callFunc, Sem.run_bind, run_program, Result.andThen_ok, h1, hng, Bool.false_eq_true, if_false, hb', Sem.run_pure]
  | false =>
    rw [hb, ifB_false] at h
    have hb' : fn.body.isNone = true := by cases q : fn.body <;> simp_all
    unfold externA at h
    split at h
    · rename_i hname
      obtain ⟨k1, k2⟩ := hF.ne f fn h1 hb hname
      split at h
      · rename_i x
        cases h
        refine ⟨σ, D, w, .inl ?_, g, Ext.refl _ _, by simpa [OnL] using ho⟩
        simp only [callFunc, Sem.run_bind, run_program, Result.andThen_ok, h1, hng, Bool.false_eq_true, if_false, hb', if_true, run_mark, k1, k2, concL, same_def, Sem.run_pure]
      · cases h
    · split at h
      · rename_i hname
        obtain ⟨k1, k2, kr⟩ := hF.mz f fn h1 hb hname
        (have ⟨p, h2, hNew⟩ := oB_of h; replace h := hNew; clear hNew)
        cases h
        have := makeNoZeroA_of g h2 kr
        obtain ⟨σ', D', w', q1, q2, q3, q4⟩ := this
        refine ⟨σ', D', w', .inl ?_, q2, q3, q4⟩
        simp only [callFunc, Sem.run_bind, run_program, Result.andThen_ok, h1, hng, Bool.false_eq_true, if_false, hb', if_true, run_mark, k1, k2, q1, Sem.run_pure]
      · cases h
theorem methodA_of {t : TypeId} {v : AV} {name : String} {fx : FuncId × AV} (g : Good B F σ D s w) (h : methodA s t v name = some fx) (hv : On D v) (k : Nat) :
    (method (k + 1) t (conc σ v) name).run PP w = .ok (fx.1, conc σ fx.2) w ∧ On D fx.2 := by
  (have ⟨i, h1, hNew⟩ := oB_of h; replace h := hNew; clear hNew)
  (have ⟨m, h2, hNew⟩ := oB_of h; replace h := hNew; clear hNew)
  (have ⟨h3, hNew⟩ := gd_of h; replace h := hNew; clear hNew)
  (have ⟨fp, h4, hNew⟩ := oB_of h; replace h := hNew; clear hNew)
  have hp : m.path.toList = [] := by
    have : m.path = #[] := by simpa using h3
    simp [this]
  have hpe : m.path.isEmpty = true := h3
  obtain ⟨f, pr⟩ := fp
  split at h
  · rename_i e hu
    cases pr with
    | true =>
      rw [ifB_true] at h
      cases h
      refine ⟨?_, hv⟩
      simp [method, typeInfo, h1, h2, hp, follow, h4, receiverAt, run_underlying hu, Place.get]
    | false =>
      rw [ifB_false] at h
      (have ⟨p, h5, hNew⟩ := oB_of h; replace h := hNew; clear hNew)
      (have ⟨x, h6, hNew⟩ := oB_of h; replace h := hNew; clear hNew)
      cases h
      obtain ⟨q1, q2⟩ := loadA_of g h6
      refine ⟨?_, q2⟩
      rw [isPtr_of h5] at q1 ⊢
      simp only [conc, Instr.loadAt, Instr.sureAddr, Sem.run_bind, Sem.run_pure, Result.andThen_ok] at q1
      simp [method, typeInfo, h1, h2, hp, follow, h4, receiverAt, run_underlying hu, Place.get, conc, strVal, wrap_def, asAddr]
      split <;> simp [q1]
  · rename_i d hd hu
    (have ⟨h5, hNew⟩ := gd_of h; replace h := hNew; clear hNew)
    cases h
    have h5 : pr = false := by simpa using h5
    subst h5
    refine ⟨?_, hv⟩
    simp only [method, typeInfo, Sem.run_bind, run_program, Result.andThen_ok, h1, Sem.run_pure, h2, hp, follow, h4, receiverAt, run_underlying hu, Place.get]
  · cases h
end
end Go.Ev
