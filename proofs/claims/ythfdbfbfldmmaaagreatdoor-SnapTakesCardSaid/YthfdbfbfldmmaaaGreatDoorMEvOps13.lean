/-
  One operation, whole.
-/
import Derived.Test.YthfdbfbfldmmaaaGreatDoorMEvOps12
import Derived.Test.YthfdbfbfldmmaaaGreatDoorMEvIter
set_option linter.unusedVariables false
set_option linter.unusedSimpArgs false
set_option linter.unusedVariables false
set_option linter.unusedSimpArgs false
namespace Go.Ev
open Go.RowKit (Below)
section
variable {B : World} {F : Nat → Option Obj} {σ : Sig} {D : Nat → Prop} {s : St} {w : World}
theorem builtinA_of {b : Builtin} {ats : Array TypeId} {ty : TypeId} {cs : Array Bool} {args : List AV} {a : AN} (g : Good B F σ D s w) (h : builtinA s b ats.toList args = some a) (ho : OnL D args) :
    OpOk B F σ D s w (builtin b ats ty cs (concL σ args).toArray) a := by
  obtain ⟨ts, hts⟩ : ∃ ts, ats.toList = ts := ⟨_, rfl⟩
  rw [hts] at h
  have hat : ats = ts.toArray := by rw [← hts]
  subst hat
  unfold builtinA at h
  split at h
  · rename_i t u x y
    (have ⟨p, h1, hNew⟩ := oB_of h; replace h := hNew; clear hNew)
    cases h
    simp only [OnL] at ho
    cases hu : isInt u with
    | true => rw [hu, ifB_true] at h1; exact OpOk.of_res (appZerosA_of (ty := ty) g h1) rfl
    | false => rw [hu, ifB_false] at h1; exact OpOk.of_res (appendA_of (ty := ty) g h1 ho.1) rfl
  · rename_i t x
    (have ⟨v, h1, hNew⟩ := oB_of h; replace h := hNew; clear hNew)
    cases h
    exact OpOk.of_res (Res.pure g (lenA_of (ty := ty) g h1)) rfl
  · rename_i t x
    (have ⟨v, h1, hNew⟩ := oB_of h; replace h := hNew; clear hNew)
    cases h
    exact OpOk.of_res (Res.pure g (capA_of (ty := ty) g h1)) rfl
  · rename_i t ts x y
    (have ⟨p, h1, hNew⟩ := oB_of h; replace h := hNew; clear hNew)
    cases h
    exact OpOk.of_res (copyA_of (ty := ty) (ts := ts) g h1) rfl
  · rename_i k x l
    (have ⟨n, h1, hNew⟩ := oB_of h; replace h := hNew; clear hNew)
    cases h
    refine OpOk.of_res (Res.pure (v := .int k n) g ⟨?_, by simp [On]⟩) rfl
    have := minL_of (σ := σ) (k := k) h1 w
    simpa [Builtin.min_, concL, conc] using this
  · rename_i k x l
    (have ⟨n, h1, hNew⟩ := oB_of h; replace h := hNew; clear hNew)
    cases h
    refine OpOk.of_res (Res.pure (v := .int k n) g ⟨?_, by simp [On]⟩) rfl
    have := maxL_of (σ := σ) (k := k) h1 w
    simpa [Builtin.max_, concL, conc] using this
  · rename_i t x
    (have ⟨s', h1, hNew⟩ := oB_of h; replace h := hNew; clear hNew)
    cases h
    obtain ⟨w', k1, k2⟩ := clearA_of (ty := ty) g h1
    exact ⟨σ, D, w', .inl (by simp only [builtin, concL]; simp [k1, undefA, conc, concL]), k2, Ext.refl _ _, by simp [undefA, On, OnL]⟩
  · rename_i t ts x y
    (have ⟨s', h1, hNew⟩ := oB_of h; replace h := hNew; clear hNew)
    cases h
    obtain ⟨w', k1, k2⟩ := deleteA_of (ty := ty) (ts := ts) g h1
    exact ⟨σ, D, w', .inl (by simp only [builtin, concL]; simp [k1, undefA, conc, concL]), k2, Ext.refl _ _, by simp [undefA, On, OnL]⟩
  · rename_i x
    (have ⟨v, h1, hNew⟩ := oB_of h; replace h := hNew; clear hNew)
    cases h
    simp only [OnL] at ho
    exact OpOk.of_res (Res.pure g (sliceDataA_of g h1 ho.1)) rfl
  · rename_i t u x k
    (have ⟨p, h1, hNew⟩ := oB_of h; replace h := hNew; clear hNew)
    cases h
    refine OpOk.of_res (unsafeStringA_of (it := u) (ty := ty) g h1) ?_
    simp only [builtin, concL, conc]
    rfl
  · cases h
theorem made_pos (p : Program) : ∃ k, p.types.size + Made.depth = k + 1 := ⟨p.types.size + (Made.depth - 1), by simp only [Made.depth]⟩
def EvOk (σ : Sig) (D : Nat → Prop) (tm : T AV) (a : Act) (xs : List Operand) : Prop := ∀ x ∈ xs, ∀ v, ev x tm = some v → a.eval x = conc σ v ∧ On D v
theorem EvOk.of_tm {n : Nat} {tm : T AV} {a : Act} (ht : Tm σ D n tm a.tmps) (xs : List Operand) : EvOk σ D tm a xs := fun _ _ _ hv => ev_of ht hv
theorem EvOk.at {tm : T AV} {a : Act} {xs : List Operand} (h : EvOk σ D tm a xs) {x : Operand} {v : AV} (hx : x ∈ xs) (hv : ev x tm = some v) : a.eval x = conc σ v ∧ On D v := h x hx v hv
theorem EvOk.sub {tm : T AV} {a : Act} {xs ys : List Operand} (h : EvOk σ D tm a xs) (hs : ∀ x ∈ ys, x ∈ xs) : EvOk σ D tm a ys := fun x hx => h x (hs x hx)
theorem evs_ok {tm : T AV} {a : Act} : ∀ {l : List Operand} {vs : List AV}, EvOk σ D tm a l → evs l tm = some vs → l.map a.eval = concL σ vs ∧ OnL D vs
  | [], vs, _, h => by cases h; simp [concL, OnL]
  | x :: l, vs, he, h => by
    obtain ⟨v, h1, h⟩ := oB_of (show oB (ev x tm) (fun a => oB (evs l tm) fun r => some (a :: r)) = some vs from h)
    obtain ⟨r, h2, h⟩ := oB_of h
    cases h
    have h3 := he.at (by simp) h1
    have h4 := evs_ok (he.sub fun y hy => by simp [hy]) h2
    simp [concL, OnL, h3, h4]
theorem evParts_ok {tm : T AV} {a : Act} : ∀ {l : List (Nat × Operand)} {vs : List (Nat × AV)}, EvOk σ D tm a (l.map (·.2)) → evParts l tm = some vs →
    (l.map fun p => (p.1, a.eval p.2)) = vs.map (fun p => (p.1, conc σ p.2)) ∧ ∀ p ∈ vs, On D p.2
  | [], vs, _, h => by cases h; simp
  | x :: l, vs, he, h => by
    obtain ⟨v, h1, h⟩ := oB_of (show oB (ev x.2 tm) (fun a => oB (evParts l tm) fun r => some ((x.1, a) :: r)) = some vs from h)
    obtain ⟨r, h2, h⟩ := oB_of h
    cases h
    obtain ⟨h3, h3'⟩ := he.at (by simp) h1
    obtain ⟨h4, h5⟩ := evParts_ok (he.sub fun y hy => by
      rw [List.map_cons]; exact List.mem_cons_of_mem _ hy) h2
    refine ⟨by simp [h3, h4], fun p hp => ?_⟩
    rcases List.mem_cons.1 hp with rfl | hp
    · exact h3'
    · exact h5 p hp
theorem callA_of (hF : Facts) {tm : T AV} {a : Act} {c : Call} {ty : TypeId} {r : AN} (g : Good B F σ D s w) (he : EvOk σ D tm a c.operands.toList) (h : callA s tm c = some r) :
    OpOk B F σ D s w (do let d ← resolve a.eval c ty; invoke d.target d.args) r := by
  (have ⟨args, h1, hNew⟩ := oB_of h; replace h := hNew; clear hNew)
  obtain ⟨k1, k2⟩ := evs_ok (he.sub fun x hx => by simp [Call.operands] at hx ⊢; exact .inr hx) h1
  have hargs : c.args.map a.eval = (concL σ args).toArray := by
    apply Array.ext'
    simp [k1]
  split at h
  · rename_i b hc
    simp only [resolve, hc, invoke, hargs, pure_bind]
    exact builtinA_of (ty := ty) g h k2
  · rename_i rc name hc
    (have ⟨x, h2, hNew⟩ := oB_of h; replace h := hNew; clear hNew)
    obtain ⟨e1, e2⟩ := he.at (by simp [Call.operands, hc]) h2
    unfold callMethodA at h
    split at h
    · rename_i t v
      (have ⟨fx, h3, hNew⟩ := oB_of h; replace h := hNew; clear hNew)
      simp only [On] at e2
      obtain ⟨q1, q2⟩ := made_pos PP
      obtain ⟨m1, m2⟩ := methodA_of g h3 e2 q1
      have := callFuncA_of hF g h (by simp only [OnL]; exact ⟨m2, k2⟩)
      have e : (do let d ← resolve a.eval c ty; invoke d.target d.args : Sem Next).run PP w = (callFunc fx.1 (concL σ (fx.2 :: args)).toArray).run PP w := by
        simp only [resolve, hc, e1, conc, Sem.run_bind, Sem.run_pure, Result.andThen_ok, invoke, hargs]
        simp only [Array.size_append, callMethod]
        simp [q2, m1, concL]
      revert this
      unfold OpOk
      simp only [e]
      exact id
    · cases h
  · rename_i f hc
    (have ⟨x, h2, hNew⟩ := oB_of h; replace h := hNew; clear hNew)
    obtain ⟨e1, e2⟩ := he.at (by simp [Call.operands, hc]) h2
    unfold callValue at h
    split at h
    · rename_i gf first captured
      simp only [On] at e2
      rw [appL_eq, appL_eq] at h
      have := callFuncA_of hF g h (by rw [onL_append, onL_append]; exact ⟨⟨e2.1, k2⟩, e2.2⟩)
      have e : (do let d ← resolve a.eval c ty; invoke d.target d.args : Sem Next).run PP w = (callFunc gf (concL σ (first ++ args ++ captured)).toArray).run PP w := by
        simp [resolve, hc, e1, conc, Deferred.ofValue, invoke, hargs, concL_append]
      revert this
      unfold OpOk
      simp only [e]
      exact id
    · rename_i b
      cases h
      refine ⟨rfl, ?_, k2, e2⟩
      simp [resolve, hc, e1, conc, Deferred.ofValue, invoke, hargs]
    · cases h
theorem evOpt_ok {tm : T AV} {a : Act} {x : Option Operand} {v : Option AV} (he : EvOk σ D tm a x.toList) (h : evOpt x tm = some v) : x.map a.eval = v.map (conc σ) := by
  cases x with
  | none => cases h; rfl
  | some x =>
    replace h : (oB (ev x tm) fun a => some (some a)) = some v := h
    (have ⟨y, h1, hNew⟩ := oB_of h; replace h := hNew; clear hNew)
    cases h
    obtain ⟨e1, _⟩ := he.at (by simp) h1
    simp [e1]
theorem opA_of (hF : Facts) {tm : T AV} {a : Act} {o : Oper} {r : AN} (g : Good B F σ D s w) (he : EvOk σ D tm a o.op.operands.toList) (h : opA s tm o = some r) : OpOk B F σ D s w (execOp a.eval o) r := by
  unfold opA at h
  unfold execOp
  cases ho : o.op <;> rw [ho] at h he <;> simp only [opD] at h
  case move x =>
    (have ⟨v, h1, hNew⟩ := oB_of h; replace h := hNew; clear hNew)
    cases h
    obtain ⟨e1, e2⟩ := he.at (by simp [Op.operands]) h1
    exact ⟨σ, D, w, .inl (by simp [e1]), g, Ext.refl _ _, e2⟩
  case assign x =>
    (have ⟨v, h1, hNew⟩ := oB_of h; replace h := hNew; clear hNew)
    cases h
    obtain ⟨e1, e2⟩ := he.at (by simp [Op.operands]) h1
    exact ⟨σ, D, w, .inl (by simp [e1]), g, Ext.refl _ _, e2⟩
  case pick c x y =>
    (have ⟨vc, h1, hNew⟩ := oB_of h; replace h := hNew; clear hNew)
    (have ⟨vx, h2, hNew⟩ := oB_of h; replace h := hNew; clear hNew)
    (have ⟨vy, h3, hNew⟩ := oB_of h; replace h := hNew; clear hNew)
    (have ⟨v, h4, hNew⟩ := oB_of h; replace h := hNew; clear hNew)
    cases h
    (have ⟨b, h5, hNew⟩ := oB_of h4; replace h4 := hNew; clear hNew)
    cases h4
    obtain ⟨e1, _⟩ := he.at (by simp [Op.operands]) h1
    obtain ⟨e2, o2⟩ := he.at (by simp [Op.operands]) h2
    obtain ⟨e3, o3⟩ := he.at (by simp [Op.operands]) h3
    rw [isBool_of h5] at e1
    refine ⟨σ, D, w, .inl ?_, g, Ext.refl _ _, by cases b <;> assumption⟩
    simp only [e1, e2, e3, conc, asBool, Sem.run_bind, Sem.run_pure, Result.andThen_ok]
    cases b <;> rfl
  case alloc e =>
    obtain ⟨v, s', rfl, k⟩ := allocA_of g h
    exact OpOk.of_res k rfl
  case box e x =>
    (have ⟨v, h1, hNew⟩ := oB_of h; replace h := hNew; clear hNew)
    obtain ⟨e1, e2⟩ := he.at (by simp [Op.operands]) h1
    obtain ⟨v', s', rfl, k⟩ := boxA_of g h e2
    exact OpOk.of_res k (by simp only [e1])
  case build t parts =>
    (have ⟨ps, h1, hNew⟩ := oB_of h; replace h := hNew; clear hNew)
    (have ⟨v, h2, hNew⟩ := oB_of h; replace h := hNew; clear hNew)
    cases h
    obtain ⟨e1, e2⟩ := evParts_ok (he.sub fun x hx => by simpa [Op.operands] using hx) h1
    have hp : parts.map (fun (i, x) => (i, a.eval x)) = (ps.map fun p => (p.1, conc σ p.2)).toArray := by
      apply Array.ext'
      simp [← e1]
    exact OpOk.of_res (Res.pure g (buildA_of h2 e2 w)) (by simp only [hp])
  case buildSlice t len parts =>
    (have ⟨ps, h1, hNew⟩ := oB_of h; replace h := hNew; clear hNew)
    obtain ⟨e1, e2⟩ := evParts_ok (he.sub fun x hx => by simpa [Op.operands] using hx) h1
    have hp : parts.map (fun (i, x) => (i, a.eval x)) = (ps.map fun p => (p.1, conc σ p.2)).toArray := by
      apply Array.ext'
      simp [← e1]
    obtain ⟨v', s', rfl, k⟩ := buildSliceA_of g h e2
    exact OpOk.of_res k (by simp only [hp])
  case load t x =>
    (have ⟨v, h1, hNew⟩ := oB_of h; replace h := hNew; clear hNew)
    (have ⟨y, h2, hNew⟩ := oB_of h; replace h := hNew; clear hNew)
    cases h
    obtain ⟨e1, _⟩ := he.at (by simp [Op.operands]) h1
    exact OpOk.of_res (Res.pure g (loadA_of g h2)) (by simp only [e1])
  case store t x y =>
    (have ⟨p, h1, hNew⟩ := oB_of h; replace h := hNew; clear hNew)
    (have ⟨v, h2, hNew⟩ := oB_of h; replace h := hNew; clear hNew)
    (have ⟨s', h3, hNew⟩ := oB_of h; replace h := hNew; clear hNew)
    cases h
    obtain ⟨e1, _⟩ := he.at (by simp [Op.operands]) h1
    obtain ⟨e2, o2⟩ := he.at (by simp [Op.operands]) h2
    exact OpOk.of_unit (storeA_of g h3 o2) (by simp only [e1, e2])
  case nilCheck x =>
    (have ⟨v, h1, hNew⟩ := oB_of h; replace h := hNew; clear hNew)
    (have ⟨y, h2, hNew⟩ := oB_of h; replace h := hNew; clear hNew)
    cases h
    obtain ⟨e1, e2⟩ := he.at (by simp [Op.operands]) h1
    simp only [e1]
    unfold nilCheckA at h2
    split at h2 <;> first | (cases h2; exact ⟨σ, D, w, .inl (by simp [conc]), g, Ext.refl _ _, e2⟩) | cases h2
  case binOp op t x y yt =>
    (have ⟨v, h1, hNew⟩ := oB_of h; replace h := hNew; clear hNew)
    (have ⟨u, h2, hNew⟩ := oB_of h; replace h := hNew; clear hNew)
    (have ⟨z, h3, hNew⟩ := oB_of h; replace h := hNew; clear hNew)
    cases h
    obtain ⟨e1, o1⟩ := he.at (by simp [Op.operands]) h1
    obtain ⟨e2, o2⟩ := he.at (by simp [Op.operands]) h2
    exact OpOk.of_res (Res.pure g (binA_of (xo := x) (yo := y) h3 o1 o2 w)) (by simp only [e1, e2])
  case unOp op t x =>
    (have ⟨v, h1, hNew⟩ := oB_of h; replace h := hNew; clear hNew)
    (have ⟨z, h3, hNew⟩ := oB_of h; replace h := hNew; clear hNew)
    cases h
    obtain ⟨e1, o1⟩ := he.at (by simp [Op.operands]) h1
    exact OpOk.of_res (Res.pure g (unA_of h3 w)) (by simp only [e1])
  case convert src dst x =>
    (have ⟨v, h1, hNew⟩ := oB_of h; replace h := hNew; clear hNew)
    (have ⟨z, h3, hNew⟩ := oB_of h; replace h := hNew; clear hNew)
    cases h
    obtain ⟨e1, o1⟩ := he.at (by simp [Op.operands]) h1
    exact OpOk.of_res (convertA_of g h3 o1) (by simp only [e1])
  case makeInterface t x =>
    (have ⟨v, h1, hNew⟩ := oB_of h; replace h := hNew; clear hNew)
    (have ⟨z, h3, hNew⟩ := oB_of h; replace h := hNew; clear hNew)
    cases h
    obtain ⟨e1, o1⟩ := he.at (by simp [Op.operands]) h1
    exact OpOk.of_res (Res.pure g (makeIfaceA_of h3 o1 w)) (by simp only [e1])
  case makeFunc f first captured =>
    cases f with
    | func f =>
      replace h : (oB (evs first.toList tm) fun a => oB (evs captured.toList tm) fun b => some (AN.val (.fn f a b) s)) = some r := h
      (have ⟨xs, h1, hNew⟩ := oB_of h; replace h := hNew; clear hNew)
      (have ⟨ys, h2, hNew⟩ := oB_of h; replace h := hNew; clear hNew)
      cases h
      obtain ⟨e1, o1⟩ := evs_ok (he.sub fun x hx => by simp [Op.operands] at hx ⊢; simp [hx]) h1
      obtain ⟨e2, o2⟩ := evs_ok (he.sub fun x hx => by simp [Op.operands] at hx ⊢; simp [hx]) h2
      have hf : first.map a.eval = (concL σ xs).toArray := by apply Array.ext'; simp [e1]
      have hc : captured.map a.eval = (concL σ ys).toArray := by apply Array.ext'; simp [e2]
      refine OpOk.of_res (m := Instr.makeFunc (.func f) (concL σ xs).toArray (concL σ ys).toArray) (Res.pure g ⟨?_, by simp only [On]; exact ⟨o1, o2⟩⟩) (by simp only [hf, hc])
      simp [Instr.makeFunc, conc]
    | _ => cases h
  case range t x =>
    (have ⟨v, h1, hNew⟩ := oB_of h; replace h := hNew; clear hNew)
    obtain ⟨e1, o1⟩ := he.at (by simp [Op.operands]) h1
    obtain ⟨v', s', rfl, k⟩ := rangeMapA_of g h o1
    exact OpOk.of_res k (by simp only [e1])
  case next it isStr =>
    cases isStr with
    | true => cases h
    | false =>
      (have ⟨v, h1, hNew⟩ := oB_of h; replace h := hNew; clear hNew)
      obtain ⟨e1, o1⟩ := he.at (by simp [Op.operands]) h1
      obtain ⟨v', s', rfl, k⟩ := nextMapA_of (ty := o.type) g h
      exact OpOk.of_res k (by simp only [e1])
  case makeMap t rsv =>
    cases rsv with
    | none =>
      obtain ⟨v', s', rfl, k⟩ := newMapA_of (t := t) g h
      exact OpOk.of_res k rfl
    | some x => cases h
  case makeChan t c =>
    (have ⟨v, h1, hNew⟩ := oB_of h; replace h := hNew; clear hNew)
    obtain ⟨e1, _⟩ := he.at (by simp [Op.operands]) h1
    obtain ⟨v', s', rfl, k⟩ := makeChanA_of g h
    exact OpOk.of_res k (by simp only [e1])
  case makeSlice t l c =>
    (have ⟨v, h1, hNew⟩ := oB_of h; replace h := hNew; clear hNew)
    (have ⟨u, h2, hNew⟩ := oB_of h; replace h := hNew; clear hNew)
    obtain ⟨e1, _⟩ := he.at (by simp [Op.operands]) h1
    obtain ⟨e2, _⟩ := he.at (by simp [Op.operands]) h2
    obtain ⟨v', s', rfl, k⟩ := makeSliceA_of g h
    exact OpOk.of_res k (by simp only [e1, e2])
  case slice t x lo hi mx =>
    (have ⟨v, h1, hNew⟩ := oB_of h; replace h := hNew; clear hNew)
    (have ⟨l, h2, hNew⟩ := oB_of h; replace h := hNew; clear hNew)
    (have ⟨hh, h3, hNew⟩ := oB_of h; replace h := hNew; clear hNew)
    (have ⟨m, h4, hNew⟩ := oB_of h; replace h := hNew; clear hNew)
    (have ⟨z, h5, hNew⟩ := oB_of h; replace h := hNew; clear hNew)
    cases h
    obtain ⟨e1, o1⟩ := he.at (by simp [Op.operands]) h1
    exact OpOk.of_res (Res.pure g (sliceA_of g h5 o1)) (by simp only [e1, evOpt_ok (he.sub fun x hx => by simp [Op.operands] at hx ⊢; simp [hx]) h2, evOpt_ok (he.sub fun x hx => by simp [Op.operands] at hx ⊢; simp [hx]) h3, evOpt_ok (he.sub fun x hx => by simp [Op.operands] at hx ⊢; simp [hx]) h4])
  case fieldAddr t x f =>
    (have ⟨v, h1, hNew⟩ := oB_of h; replace h := hNew; clear hNew)
    (have ⟨z, h3, hNew⟩ := oB_of h; replace h := hNew; clear hNew)
    cases h
    obtain ⟨e1, o1⟩ := he.at (by simp [Op.operands]) h1
    exact OpOk.of_res (Res.pure g (fieldAddrA_of h3 o1 w)) (by simp only [e1])
  case field t x f =>
    (have ⟨v, h1, hNew⟩ := oB_of h; replace h := hNew; clear hNew)
    (have ⟨z, h3, hNew⟩ := oB_of h; replace h := hNew; clear hNew)
    cases h
    obtain ⟨e1, o1⟩ := he.at (by simp [Op.operands]) h1
    exact OpOk.of_res (Res.pure g (fieldA_of h3 o1 w)) (by simp only [e1])
  case indexAddr t x i =>
    (have ⟨v, h1, hNew⟩ := oB_of h; replace h := hNew; clear hNew)
    (have ⟨u, h2, hNew⟩ := oB_of h; replace h := hNew; clear hNew)
    (have ⟨z, h3, hNew⟩ := oB_of h; replace h := hNew; clear hNew)
    cases h
    obtain ⟨e1, o1⟩ := he.at (by simp [Op.operands]) h1
    obtain ⟨e2, o2⟩ := he.at (by simp [Op.operands]) h2
    exact OpOk.of_res (Res.pure g (indexAddrA_of h3 o1 w)) (by simp only [e1, e2])
  case index t x i =>
    (have ⟨v, h1, hNew⟩ := oB_of h; replace h := hNew; clear hNew)
    (have ⟨u, h2, hNew⟩ := oB_of h; replace h := hNew; clear hNew)
    (have ⟨z, h3, hNew⟩ := oB_of h; replace h := hNew; clear hNew)
    cases h
    obtain ⟨e1, o1⟩ := he.at (by simp [Op.operands]) h1
    obtain ⟨e2, o2⟩ := he.at (by simp [Op.operands]) h2
    exact OpOk.of_res (Res.pure g (indexA_of h3 o1 w)) (by simp only [e1, e2])
  case lookup t x i ok =>
    (have ⟨v, h1, hNew⟩ := oB_of h; replace h := hNew; clear hNew)
    (have ⟨u, h2, hNew⟩ := oB_of h; replace h := hNew; clear hNew)
    (have ⟨z, h3, hNew⟩ := oB_of h; replace h := hNew; clear hNew)
    cases h
    obtain ⟨e1, o1⟩ := he.at (by simp [Op.operands]) h1
    obtain ⟨e2, o2⟩ := he.at (by simp [Op.operands]) h2
    exact OpOk.of_res (Res.pure g (lookupA_of g h3)) (by simp only [e1, e2])
  case mapUpdate t m k v =>
    (have ⟨x, h1, hNew⟩ := oB_of h; replace h := hNew; clear hNew)
    (have ⟨y, h2, hNew⟩ := oB_of h; replace h := hNew; clear hNew)
    (have ⟨z, h3, hNew⟩ := oB_of h; replace h := hNew; clear hNew)
    (have ⟨s', h4, hNew⟩ := oB_of h; replace h := hNew; clear hNew)
    cases h
    obtain ⟨e1, o1⟩ := he.at (by simp [Op.operands]) h1
    obtain ⟨e2, o2⟩ := he.at (by simp [Op.operands]) h2
    obtain ⟨e3, o3⟩ := he.at (by simp [Op.operands]) h3
    exact OpOk.of_unit (mapUpdateA_of g h4 o2 o3) (by simp only [e1, e2, e3])
  case typeAssert x xt t ok =>
    (have ⟨v, h1, hNew⟩ := oB_of h; replace h := hNew; clear hNew)
    (have ⟨z, h3, hNew⟩ := oB_of h; replace h := hNew; clear hNew)
    cases h
    obtain ⟨e1, o1⟩ := he.at (by simp [Op.operands]) h1
    exact OpOk.of_res (Res.pure g (typeAssertA_of (xt := xt) h3 o1 w)) (by simp only [e1])
  case extract x i =>
    (have ⟨v, h1, hNew⟩ := oB_of h; replace h := hNew; clear hNew)
    (have ⟨z, h3, hNew⟩ := oB_of h; replace h := hNew; clear hNew)
    cases h
    obtain ⟨e1, o1⟩ := he.at (by simp [Op.operands]) h1
    exact OpOk.of_res (Res.pure g (extractA_of h3 o1 w)) (by simp only [e1])
  case call c => exact callA_of hF g he h
  all_goals cases h
end
end Go.Ev
