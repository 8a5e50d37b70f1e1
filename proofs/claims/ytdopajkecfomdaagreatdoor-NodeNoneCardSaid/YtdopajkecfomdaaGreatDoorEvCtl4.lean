/-
  Control: calls.
-/
import Derived.Test.YtdopajkecfomdaaGreatDoorEvCtl3
namespace Go.Ev
open Go.RowKit (Below)

section
variable {B : World} {Fm : Nat → Option Obj} {σ : Sig} {D : Nat → Prop} {s : St} {w : World}

/-- What is not walked is so. -/
def PrimsOk (pr : Prims) : Prop := ∀ {B : World} {Fm : Nat → Option Obj} {σ : Sig} {D : Nat → Prop} {s : St} {w : World} {f : FuncId} {args : List AV} {p : AV × St},
    pr f args s = some p → Good B Fm σ D s w → OnL D args → CallsIn Fence.wide 0 PP f (concL σ args).toArray w (Ret B Fm σ D p)

theorem argsT_get : ∀ (l : List AV) (k : Nat) (tm : T AV), k + l.length ≤ top → ∀ t, tmA (argsT l k tm) t = if k ≤ t ∧ t < k + l.length then (l[t - k]?).getD undefA else tmA tm t
  | [], k, tm, _, t => by
    rw [if_neg (by simp only [List.length_nil]; omega)]
    rfl
  | a :: l, k, tm, h, t => by
    simp only [List.length_cons] at h ⊢
    rw [show argsT (a :: l) k tm = argsT l (k + 1) (tm.set depth k a) from rfl, argsT_get l (k + 1) _ (by omega) t]
    by_cases h1 : k + 1 ≤ t ∧ t < k + 1 + l.length
    · rw [if_pos h1, if_pos (by omega), show t - k = (t - (k + 1)) + 1 by omega, List.getElem?_cons_succ]
    · rw [if_neg h1]
      have hs : tmA (tm.set depth k a) t = if t = k then a else tmA tm t := by
        unfold tmA
        rw [T.get_set' tm a (by omega) t]
        split <;> rfl
      rw [hs]
      by_cases h2 : t = k
      · subst h2
        rw [if_pos rfl, if_pos (by omega), Nat.sub_self]
        simp
      · rw [if_neg h2, if_neg (by omega)]

theorem args_tm {args : List AV} {m : Nat} (ho : OnL D args) (h : args.length + m ≤ top) : Tm σ D (args.length + m) (argsT args 0 .nil) ((concL σ args).toArray ++ Array.replicate m undef) := by
  have hget := argsT_get args 0 .nil (by omega)
  refine ⟨by simp [concL_length], h, fun t => ?_, fun t => ?_⟩
  · rw [hget t]
    by_cases ht : t < args.length
    · rw [if_pos ⟨Nat.zero_le _, by omega⟩]
      have h1 : (concL σ args)[t]? = some (conc σ args[t]) := by rw [concL_eq, List.getElem?_map, List.getElem?_eq_getElem ht]; rfl
      have h2 : ((concL σ args).toArray ++ Array.replicate m undef)[t]? = some (conc σ args[t]) := by
        rw [Array.getElem?_append_left (by simp [concL_length, ht])]
        simpa using h1
      simp [h2, ht]
    · rw [if_neg (by omega)]
      have h2 : ((concL σ args).toArray ++ Array.replicate m undef).getD t undef = undef := by
        rw [Array.getD_eq_getD_getElem?, Array.getElem?_append_right (by simp [concL_length]; omega), Array.getElem?_replicate]
        split <;> rfl
      rw [h2]
      simp [tmA, undefA, conc, concL, undef]
  · rw [hget t]
    split
    · rename_i hh
      simp only [Nat.sub_zero]
      cases hq : args[t]? with
      | none => simp [undefA, On, OnL]
      | some v => simpa using (onL_iff _ _).1 ho v (List.mem_of_getElem? hq)
    · simp [tmA, undefA, On, OnL]

theorem resultsA_of {n : Nat} {tm : T AV} {a : Act} (g : Good B Fm σ D s w) (ht : Tm σ D n tm a.tmps) : ∀ {rs : List ResultVar} {l : List AV}, resultsA s tm rs = some l →
    (rs.mapM (m := Sem) fun
      | .tmp t => pure (a.tmps.getD t undef)
      | .cell c t => do loadVar t (← asAddr (a.tmps.getD c undef))).run PP w = .ok (concL σ l) w ∧ OnL D l
  | [], l, h => by cases h; simp [concL, OnL]
  | r :: rs, l, h => by
    replace h : (oB (resultA s tm r) fun v => oB (resultsA s tm rs) fun vs => some (v :: vs)) = some l := h
    (have ⟨v, h1, hNew⟩ := oB_of h; replace h := hNew; clear hNew)
    (have ⟨vs, h2, hNew⟩ := oB_of h; replace h := hNew; clear hNew)
    cases h
    obtain ⟨k1, k2⟩ := resultsA_of g ht h2
    cases r with
    | tmp t =>
      cases h1
      refine ⟨?_, ht.on t, k2⟩
      have hv := ht.val t
      simp only [List.mapM_cons, Sem.run_bind, Sem.run_pure, Result.andThen_ok, k1, hv, concL]
    | cell c t =>
      replace h1 : loadA s t (tmA tm c) = some v := h1
      obtain ⟨q1, q2⟩ := loadA_of g h1
      refine ⟨?_, q2, k2⟩
      have hv := ht.val c
      obtain ⟨p, hp, _⟩ := oB_of h1
      have e := isPtr_of hp
      rw [e] at q1 hv
      simp only [conc, Instr.loadAt, Instr.sureAddr, Sem.run_bind, Sem.run_pure, Result.andThen_ok] at q1 hv
      have has : asAddr (.pointer (some ⟨(σ p.1).b, p.2, none⟩)) = pure ⟨(σ p.1).b, p.2, none⟩ := rfl
      simp only [List.mapM_cons, Sem.run_bind, Sem.run_pure, Result.andThen_ok, k1, hv, has, q1, concL]

theorem results_of {n : Nat} {fn : Func} {tm : T AV} {a : Act} {l : List AV} (g : Good B Fm σ D s w) (ht : Tm σ D n tm a.tmps) (h : resultsA s tm fn.results.toList = some l) :
    (results fn a.tmps).run PP w = .ok (conc σ (oneOrTuple l)) w ∧ On D (oneOrTuple l) := by
  obtain ⟨k1, k2⟩ := resultsA_of g ht h
  have hm : (fn.results.mapM (m := Sem) fun
      | .tmp t => pure (a.tmps.getD t undef)
      | .cell c t => do loadVar t (← asAddr (a.tmps.getD c undef))).run PP w = .ok (concL σ l).toArray w := by
    rw [Array.mapM_eq_mapM_toList, map_eq_pure_bind]
    simp only [Sem.run_bind, k1, Result.andThen_ok, Sem.run_pure]
  refine ⟨?_, ?_⟩
  · unfold results
    rw [Sem.run_bind]
    refine (congrArg (fun r => Result.andThen r fun vs w' => (pure (if h : vs.size = 1 then vs[0] else Value.tuple vs) : Sem Value).run PP w') hm).trans ?_
    simp only [Result.andThen_ok, Sem.run_pure]
    congr 1
    match l with
    | [] => simp [concL, oneOrTuple, conc]
    | [v] => simp [concL, oneOrTuple]
    | v :: u :: l => simp [concL, oneOrTuple, conc]
  · match l, k2 with
    | [], _ => simp [oneOrTuple, On, OnL]
    | [v], k2 => simpa [oneOrTuple, OnL] using k2
    | v :: u :: l, k2 => simpa [oneOrTuple, On] using k2

/-- A call that is evaluated, entered as a deferred one. -/
theorem callD_in {k : Nat} {F : Fns} (hS : Sound k F) {f : FuncId} {args : List AV} {p : AV × St} {σ : Sig} {D : Nat → Prop} {s : St} {w : World} (h : callD F f args s = some p) (g : Good B Fm σ D s w) (ho : OnL D args) (u : FrameMode) :
    CallsDIn Fence.wide 0 PP f (concL σ args).toArray u w fun e u' w' => u' = u ∧ Ret B Fm σ D p e w' := by
  unfold callD at h
  (have ⟨fn, h1, hNew⟩ := oB_of h; replace h := hNew; clear hNew)
  (have ⟨c, h2, hNew⟩ := oB_of h; replace h := hNew; clear hNew)
  (have ⟨h3, hNew⟩ := gd_of h; replace h := hNew; clear hNew)
  (have ⟨o, h4, hNew⟩ := oB_of h; replace h := hNew; clear hNew)
  (have ⟨h5, hNew⟩ := gd_of h; replace h := hNew; clear hNew)
  split at h
  · rename_i hdf
    (have ⟨l, h7, hNew⟩ := oB_of h; replace h := hNew; clear hNew)
    cases h
    have hfr : frameA fn args = args.length + (fn.ntmps - args.length) := by
      unfold frameA
      rw [lenL_eq]
      cases args.length + (fn.ntmps - args.length) <;> rfl
    rw [hfr] at h3 h4
    have hlim : args.length + (fn.ntmps - args.length) ≤ top := by simpa [nble] using h3
    refine callsDIn_of_wp h1 h2 trivial ?_
    have hsz : (concL σ args).toArray.size = args.length := by simp [concL_length]
    rw [hsz]
    refine wpIn_mono (hS.code (r := none) h4 g ⟨args_tm ho hlim, rfl, by simp⟩ (fun l hl => by cases hl)) fun e a' w' hc => ?_
    obtain ⟨rfl, σ', D', k1, k2, k3⟩ := hc
    have hd : a'.defers = [] := by rw [k3.df, hdf]; rfl
    obtain ⟨q1, q2⟩ := results_of k1 k3.tm h7
    cases hx : o.x with
    | normal => exact ⟨hd, _, q1, σ', D', rfl, k1, k2, q2⟩
    | ret => exact ⟨hd, _, q1, σ', D', rfl, k1, k2, q2⟩
    | exit id => rw [hx] at h5; simp [atEnd] at h5
  · cases h

theorem leaves_marks (hF : Facts) {k : Nat} {F : Fns} (hS : Sound k F) {fn : Func} {tmps : Array Value} {R : Ending → World → Prop} : ∀ {df : List Dfr} {σ : Sig} {D : Nat → Prop} {s s' : St} {w : World}, takeMarks F df s = some s' → Good B Fm σ D s w → (∀ d ∈ df, OnDf D d) →
    (∀ σ' D' w', Ext σ D σ' D' → Good B Fm σ' D' s' w' → LeavesInM Fence.wide 0 PP fn tmps R [] .returning w') → LeavesInM Fence.wide 0 PP fn tmps R (df.map (mrk σ)) .returning w
  | [], σ, D, s, s', w, h, g, _, hk => by cases h; exact hk σ D w (Ext.refl _ _) g
  | .mark b :: df, σ, D, s, s', w, h, g, hd, hk => by
    unfold takeMarks at h
    simp only at h
    split at h
    · rename_i hb
      obtain ⟨hd', ob, h1, h2⟩ := g.heap b _ hb (by simp)
      cases ob <;> simp only [ORel] at h2
      subst h2
      have hs : (σ b).b < w.heap.size := (Array.getElem?_eq_some_iff.1 h1).1
      refine ⟨by simp, .inl ⟨(σ b).b, { w with heap := w.heap.setIfInBounds (σ b).b (.deferred none) }, rfl, ?_, ?_⟩⟩
      · have hg : (getObj (σ b).b).run PP w = .ok (.deferred (some [])) w := by simp [getObj, Sem.run, h1]
        have hst : (setObj (σ b).b (.deferred none)).run PP w = .ok () { w with heap := w.heap.setIfInBounds (σ b).b (.deferred none) } := by simp [setObj, Sem.run, h1]
        simp only [Instr.takeDeferred, Sem.run_bind, hg, Result.andThen_ok, hst, Sem.run_pure]
      · refine leaves_marks hF hS h (g.put ⟨_, hb, by simp⟩ (ob := .deferred none) rfl rfl rfl rfl (by simp) (by simp [hs]) (fun i hi => Array.getElem?_setIfInBounds_ne (Ne.symm hi))) (fun d hm => hd d (List.mem_cons_of_mem _ hm)) hk
    · cases h
  | .call f args :: df, σ, D, s, s', w, h, g, hd, hk => by
    unfold takeMarks at h
    simp only at h
    (have ⟨p, h1, hNew⟩ := oB_of h; replace h := hNew; clear hNew)
    have ho : OnL D args := hd _ List.mem_cons_self
    have hen : (callFunc f (concL σ args).toArray).run PP w = .ok (.enter f (concL σ args).toArray) w := by
      have hc : callFuncA s f args = some (.enter f args s) := by
        unfold callD at h1
        (have ⟨fn, k1, hNew⟩ := oB_of h1; replace h1 := hNew; clear hNew)
        (have ⟨c, k2, hNew⟩ := oB_of h1; replace h1 := hNew; clear hNew)
        unfold callFuncA
        rw [k1]
        show ifB fn.body.isSome _ _ = _
        rw [k2]
        rfl
      exact (callFuncA_of hF g hc ho).2.1
    refine ⟨by simp, .inr ⟨by simp [Fence.wide], .func f, #[], f, (concL σ args).toArray, rfl, ?_, fun _ _ => trivial, ?_⟩⟩
    · show (callFunc f ((concL σ args).toArray ++ #[])).run PP w = _
      rw [Array.append_empty]
      exact hen
    · refine (callD_in hS h1 g ho .returning).mono ?_
      rintro e u' w' ⟨rfl, σ', D', rfl, g', x, _⟩
      have e2 : df.map (mrk σ) = df.map (mrk σ') := List.map_congr_left fun d hm => (mrk_ext x (hd d (List.mem_cons_of_mem _ hm))).symm
      show LeavesInM Fence.wide 0 PP fn tmps R (df.map (mrk σ)) .returning w'
      rw [e2]
      exact leaves_marks hF hS h g' (fun d hm => onDf_ext x (hd d (List.mem_cons_of_mem _ hm))) (fun σ'' D'' w'' x' g'' => hk σ'' D'' w'' (x.trans x') g'')

theorem call_step (hF : Facts) {k : Nat} {F : Fns} (hS : Sound k F) {pr : Prims} (hpr : PrimsOk pr) {f : FuncId} {args : List AV} {p : AV × St} (h : callF F pr f args s = some p) (g : Good B Fm σ D s w) (ho : OnL D args) :
    CallsIn Fence.wide 0 PP f (concL σ args).toArray w (Ret B Fm σ D p) := by
  unfold callF at h
  split at h
  · rename_i q hq
    cases h
    exact hpr hq g ho
  · (have ⟨fn, h1, hNew⟩ := oB_of h; replace h := hNew; clear hNew)
    (have ⟨c, h2, hNew⟩ := oB_of h; replace h := hNew; clear hNew)
    (have ⟨h3, hNew⟩ := gd_of h; replace h := hNew; clear hNew)
    (have ⟨o, h4, hNew⟩ := oB_of h; replace h := hNew; clear hNew)
    (have ⟨h5, hNew⟩ := gd_of h; replace h := hNew; clear hNew)
    (have ⟨s', h6, hNew⟩ := oB_of h; replace h := hNew; clear hNew)
    (have ⟨l, h7, hNew⟩ := oB_of h; replace h := hNew; clear hNew)
    cases h
    have hfr : frameA fn args = args.length + (fn.ntmps - args.length) := by
      unfold frameA
      rw [lenL_eq]
      cases args.length + (fn.ntmps - args.length) <;> rfl
    rw [hfr] at h3 h4
    have hlim : args.length + (fn.ntmps - args.length) ≤ top := by simpa [nble] using h3
    refine callsIn_of_wp_marks h1 h2 trivial ?_
    have hsz : (concL σ args).toArray.size = args.length := by simp [concL_length]
    rw [hsz]
    refine wpIn_mono (hS.code (r := none) h4 g ⟨args_tm ho hlim, rfl, by simp⟩ (fun l hl => by cases hl)) fun e a' w' hc => ?_
    obtain ⟨rfl, σ', D', k1, k2, k3⟩ := hc
    have hlv : LeavesInM Fence.wide 0 PP fn a'.tmps (Ret B Fm σ D (oneOrTuple l, s')) a'.defers .returning w' := by
      rw [k3.df]
      refine leaves_marks hF hS h6 k1 k3.on fun σ'' D'' w'' x g' => ?_
      obtain ⟨q1, q2⟩ := results_of g' (x.tm k3.tm) h7
      exact ⟨_, q1, σ'', D'', rfl, g', k2.trans x, q2⟩
    cases hx : o.x with
    | normal => exact hlv
    | ret => exact hlv
    | exit id => rw [hx] at h5; simp [atEnd] at h5

end
end Go.Ev
