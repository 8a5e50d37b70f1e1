/-
  Control: code, loops over functions, rounds, calls.
-/
import Derived.Test.YthfdbfbfldmmaaaGreatDoorMEvCtl1
set_option linter.unusedVariables false
set_option linter.unusedSimpArgs false
set_option linter.unusedVariables false
set_option linter.unusedSimpArgs false
namespace Go.Ev
open Go.RowKit (Below)
section
variable {B : World} {Fm : Nat → Option Obj} {σ : Sig} {D : Nat → Prop} {s : St} {w : World}
theorem get_loop {w : World} {r : Nat} {L : Loop} (h : w.heap[r]? = some (.loop L)) : (Instr.getLoop r).run PP w = .ok L w := by
  simp [Instr.getLoop, getObj, Sem.run, h]
theorem set_loop {w : World} {r : Nat} {L : Loop} (o : Obj) (h : w.heap[r]? = some (.loop L)) : (setObj r o).run PP w = .ok () { w with heap := w.heap.setIfInBounds r o } := by
  simp [setObj, Sem.run, h]
theorem Good.loop (g : Good B Fm σ D s w) {b : Nat} {lp : Lp} (h : s.loopAt b = some lp) : D b ∧ alive s b ∧ ∃ L, w.heap[(σ b).b]? = some (.loop L) ∧ ORel σ D (σ b) (.loop lp) (.loop L) := by
  have ha := loopAt_of h
  obtain ⟨hd, ob, h1, h2⟩ := g.heap b _ ha (by simp)
  cases ob <;> simp only [ORel] at h2
  exact ⟨hd, ⟨_, ha, by simp⟩, _, h1, h2⟩
theorem Good.setLoop (g : Good B Fm σ D s w) {b : Nat} {lp lp' : Lp} {L L' : Loop} (h : s.loopAt b = some lp) (hL : w.heap[(σ b).b]? = some (.loop L)) (hr : ORel σ D (σ b) (.loop lp') (.loop L')) :
    (setObj (σ b).b (.loop L')).run PP w = .ok () { w with heap := w.heap.setIfInBounds (σ b).b (.loop L') } ∧ Good B Fm σ D (s.put b (.loop lp')) { w with heap := w.heap.setIfInBounds (σ b).b (.loop L') } := by
  obtain ⟨_, ha, _⟩ := g.loop h
  refine ⟨set_loop _ hL, g.put ha hr rfl rfl rfl (by simp) ?_ (fun i hi => Array.getElem?_setIfInBounds_ne (Ne.symm hi))⟩
  have := (Array.getElem?_eq_some_iff.1 hL).1
  simp [this]
theorem dfrA_of {n : Nat} {r : Option Nat} {tm : T AV} {df : List Dfr} {a : Act} {q : Nat × St × List Dfr} (h : dfrA r df s = some q) (g : Good B Fm σ D s w) (ht : Fr σ D n tm df a) (hr : ∀ l, r = some l → D l) :
    ∃ σ1 D1 w1 mark, (∀ fn tmps ps assign body, (Instr.enterLoop fn tmps ps assign body (fen σ r).round).run PP w =
        .ok (w1.heap.size, mark) (w1.alloc (.loop { state := .ready, pending := none, fn, tmps, params := ps, assign, body, defers := (σ1 q.1).b }))) ∧
      Good B Fm σ1 D1 q.2.1 w1 ∧ Ext σ D σ1 D1 ∧ D1 q.1 ∧ Fr σ1 D1 n tm q.2.2 { a with defers := mark ++ a.defers } := by
  cases r with
  | none =>
    replace h : (oB (s.new .dfr) fun p => some (p.1, p.2, .mark p.1 :: df)) = some q := h
    (have ⟨p, h1, hNew⟩ := oB_of h; replace h := hNew; clear hNew)
    cases h
    obtain ⟨b, s1⟩ := p
    obtain ⟨_, hb, _⟩ := new_of h1
    have hext : Ext σ D (upd σ s.nx ⟨w.heap.size, 0⟩) (plus D s.nx) := ext_upd g.fresh
    have hg := g.new (n := 0) (ob := .deferred (some [])) h1 rfl
    have hf := ht.ext hext
    refine ⟨_, _, _, [{ target := .collected w.heap.size, args := #[] }], ?_, hg, hext, by rw [hb]; exact .inr rfl, hf.tm, ?_, ?_⟩
    · intro fn tmps ps assign body
      simp only [hb, upd_same]
      simp [fen, Instr.enterLoop]
    · simp only [List.map_cons, mrk, hb, upd_same, List.cons_append, List.nil_append]
      rw [hf.df]
    · intro c hc
      rcases List.mem_cons.1 hc with rfl | hc
      · show plus D s.nx b
        rw [hb]; exact .inr rfl
      · exact hf.on c hc
  | some l =>
    replace h : (oB (s.loopAt l) fun lp => some (lp.dfr, s, df)) = some q := h
    (have ⟨lp, h1, hNew⟩ := oB_of h; replace h := hNew; clear hNew)
    cases h
    obtain ⟨_, _, L, hL, hrel⟩ := g.loop h1
    obtain ⟨_, _, _, _, _, _, k7, k8⟩ := hrel
    refine ⟨σ, D, w, [], ?_, g, Ext.refl _ _, k8, ht⟩
    intro fn tmps ps assign body
    simp [fen, Instr.enterLoop, get_loop hL, k7]
theorem code_range (hF : Facts) {k : Nat} {F : Fns} (hS : Sound k F) {n : Nat} {r : Option Nat} {f : Operand} {params : Array Tmp} {assign body : Code} {tm : T AV} {df : List Dfr} {a : Act} {o : Out}
    (h : rangeA F n r f params.toList assign body tm df s = some o) (g : Good B Fm σ D s w) (ht : Fr σ D n tm df a) (hr : ∀ l, r = some l → D l) :
    (Code.rangeFunc f params assign body).wpIn (fen σ r) 0 PP (CPost B Fm σ D n o) a w := by
  (have ⟨q, h1, hNew⟩ := oB_of h; replace h := hNew; clear hNew)
  (have ⟨p, h2, hNew⟩ := oB_of h; replace h := hNew; clear hNew)
  (have ⟨gv, h3, hNew⟩ := oB_of h; replace h := hNew; clear hNew)
  (have ⟨vs, h4, hNew⟩ := oB_of h; replace h := hNew; clear hNew)
  obtain ⟨b, s2⟩ := p
  refine wpIn_rangeFunc fun fn _ => ?_
  obtain ⟨σ1, D1, w1, mark, k1, k2, k3, k4, k5⟩ := dfrA_of h1 g ht hr
  obtain ⟨_, hb, _⟩ := new_of h2
  have hext : Ext σ1 D1 (upd σ1 q.2.1.nx ⟨w1.heap.size, 0⟩) (plus D1 q.2.1.nx) := ext_upd k2.fresh
  have hrel : ORel (upd σ1 q.2.1.nx ⟨w1.heap.size, 0⟩) (plus D1 q.2.1.nx) ⟨w1.heap.size, 0⟩ (.loop ⟨.ready, none, tm, n, params.toList, assign, body, q.1⟩)
      (.loop { state := .ready, pending := none, fn, tmps := a.tmps, params, assign, body, defers := (σ1 q.1).b }) :=
    ⟨rfl, rfl, hext.tm k5.tm, rfl, rfl, rfl, by rw [hext.same _ k4], hext.sub _ k4⟩
  have g2 := k2.new h2 hrel
  obtain ⟨σ2, hσ2⟩ : ∃ x, x = upd σ1 q.2.1.nx ⟨w1.heap.size, 0⟩ := ⟨_, rfl⟩
  obtain ⟨D2, hD2⟩ : ∃ x, x = plus D1 q.2.1.nx := ⟨_, rfl⟩
  obtain ⟨W2, hW2⟩ : ∃ x, x = w1.alloc (.loop { state := .ready, pending := none, fn, tmps := a.tmps, params, assign, body, defers := (σ1 q.1).b }) := ⟨_, rfl⟩
  have hat : (σ2 b).b = w1.heap.size := by rw [hσ2, hb, upd_same]
  have hDb : D2 b := by rw [hD2, hb]; exact .inr rfl
  rw [← hσ2, ← hD2] at hext g2
  rw [← hW2] at g2
  have henter := k1 fn a.tmps params assign body
  rw [← hW2] at henter
  have x2 : Ext σ D σ2 D2 := k3.trans hext
  have f2 := k5.ext hext
  obtain ⟨e1, e2⟩ := ev_of ht.tm h3
  unfold rangeCallA at h4
  split at h4
  · rename_i gf first captured
    (have ⟨x, h5, hNew⟩ := oB_of h4; replace h4 := hNew; clear hNew)
    split at h4
    · rename_i gf' args s3
      rw [appL_eq, appL_eq] at h5
      have e2' := x2.on e2
      simp only [On] at e2'
      have hcf := callFuncA_of hF g2 h5 (by rw [onL_append, onL_append]; exact ⟨⟨e2'.1, by simp only [OnL, On]; exact ⟨hDb, trivial⟩⟩, e2'.2⟩)
      obtain ⟨rfl, c1, c2⟩ := hcf
      have hcall := hS.call h4 g2 c2
      have e1' : a.eval f = .func (.func gf) (concL σ2 first).toArray (concL σ2 captured).toArray := by
        rw [e1, ← x2.conc e2]; simp only [conc]
      have hcf' : (callFunc gf ((concL σ2 first).toArray ++ #[Value.func (.yield w1.heap.size) #[] #[]] ++ (concL σ2 captured).toArray)).run PP W2 = .ok (.enter gf' (concL σ2 args).toArray) W2 := by
        rw [← c1]
        congr 2
        simp [concL_append, concL, conc, hat]
      refine ⟨w1.heap.size, mark, W2, { target := .fn (.func gf) (concL σ2 captured).toArray, args := (concL σ2 first).toArray ++ #[Value.func (.yield w1.heap.size) #[] #[]] }, W2, gf', (concL σ2 args).toArray, W2, henter, ?_, fun _ _ => trivial, hcf', fun e => absurd e (fen_depth σ r), ?_⟩
      · have hy : a.eval (.const (.func (.yield w1.heap.size) #[] #[])) = .func (.yield w1.heap.size) #[] #[] := rfl
        simp [resolve, e1', Deferred.ofValue, hy]
      · refine CallsIn.mono (show CallsIn (fen σ r) (0 - 1) PP gf' (concL σ2 args).toArray W2 (Ret B Fm σ2 D2 vs) from hcall) fun e w3 he => ?_
        obtain ⟨σ3, D3, rfl, m1, m2, m3⟩ := he
        have hbx : (σ3 b).b = w1.heap.size := by rw [m2.same b hDb, hat]
        replace h : (oB (vs.2.loopAt b) fun lp => match lp.st with
          | .busy => none
          | _ => match lp.pend with
            | none => some ⟨.normal, tm, q.2.2, vs.2.put b (.loop { lp with st := .exhausted })⟩
            | some c => F.code n r c tm q.2.2 (vs.2.put b (.loop { lp with st := .exhausted }))) = some o := h
        (have ⟨lp, hl, hNew⟩ := oB_of h; replace h := hNew; clear hNew)
        obtain ⟨_, _, L, hL, hrl⟩ := m1.loop hl
        obtain ⟨r1, r2, r3, r4, r5, r6, r7, r8⟩ := hrl
        obtain ⟨u1, u2⟩ := m1.setLoop (lp' := { lp with st := .exhausted }) (L' := { L with state := .exhausted }) hl hL ⟨rfl, r2, r3, r4, r5, r6, r7, r8⟩
        obtain ⟨s5, hs5⟩ : ∃ x, x = vs.2.put b (.loop { lp with st := .exhausted }) := ⟨_, rfl⟩
        rw [← hs5] at h u2
        have x3 : Ext σ D σ3 D3 := x2.trans m2
        have f3 := f2.ext m2
        have hend : ∀ st, lp.st = st → st ≠ .busy → (Instr.endLoop w1.heap.size).run PP w3 = .ok L.pending { w3 with heap := w3.heap.setIfInBounds (σ3 b).b (.loop { L with state := .exhausted }) } := by
          intro st hst hne
          have hb' : (L.state == LoopState.busy) = false := by
            rw [r1, hst]
            cases st <;> first | rfl | exact absurd rfl hne
          rw [← hbx]
          simp only [Instr.endLoop, Sem.run_bind, get_loop hL, Result.andThen_ok, hb', Bool.false_eq_true, if_false, u1, Sem.run_pure]
        have fin : ∀ st, lp.st = st → st ≠ .busy → (match lp.pend with
            | none => some ⟨.normal, tm, q.2.2, s5⟩
            | some c => F.code n r c tm q.2.2 s5) = some o →
            rangePost (fen σ r) 0 PP w1.heap.size (CPost B Fm σ D n o) { a with defers := mark ++ a.defers } (.returned (conc σ3 vs.1)) w3 := by
          intro st hst hne h
          refine ⟨L.pending, _, hend st hst hne, ?_⟩
          generalize { w3 with heap := w3.heap.setIfInBounds (σ3 b).b (.loop { L with state := .exhausted }) } = w5 at u2 ⊢
          rw [r2]
          cases hp : lp.pend with
          | none =>
            rw [hp] at h
            cases h
            exact ⟨rfl, σ3, D3, u2, x3, f3⟩
          | some c =>
            rw [hp] at h
            have := hS.code (a := { a with defers := mark ++ a.defers }) h u2 f3 (fun l hl => x3.sub l (hr l hl))
            rw [fen_ext x3 hr] at this
            exact wpIn_mono this fun e a w hc => hc.weaken x3
        cases hst : lp.st <;> rw [hst] at h <;> first | (cases h; done) | exact fin _ hst (by simp) h
    · cases h4
  · cases h4
end
end Go.Ev
