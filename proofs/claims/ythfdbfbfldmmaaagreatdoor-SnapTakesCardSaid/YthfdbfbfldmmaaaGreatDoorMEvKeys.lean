/-
  Control: code, rounds, calls. Control: calls. The keys of a map, sorted, and collected where there is at most one: what the library's contracts give, for the evaluator.
-/
import Derived.Test.YthfdbfbfldmmaaaGreatDoorMEvCtl2
import Derived.Test.YthfdbfbfldmmaaaGreatDoorMEvComm
import Derived.RangeFuncLeaves
import Derived.Test.YthfdbfbfldmmaaaGreatDoorMGvRows
import Derived.Lib.SlKeysI
import Derived.Laws.AppendOwn
set_option linter.unusedVariables false
set_option linter.unusedSimpArgs false
set_option linter.unusedVariables false
set_option linter.unusedSimpArgs false
namespace Go.Ev
open Go.RowKit (Below)
section
variable {B : World} {Fm : Nat → Option Obj} {σ : Sig} {D : Nat → Prop} {s : St} {w : World}
theorem seqK_of {k : Nat} {F : Fns} (hS : Sound k F) {n : Nat} {r : Option Nat} {b : Code} {o1 o : Out} (h : seqK F n r b o1 = some o) (hr : ∀ l, r = some l → D l) {e : Exit} {a' : Act} {w' : World} (hc : CPost B Fm σ D n o1 e a' w') :
    Exit.then (b.wpIn (fen σ r) 0 PP (CPost B Fm σ D n o)) (CPost B Fm σ D n o) e a' w' := by
  obtain ⟨rfl, σ', D', h1, h2, h3⟩ := hc
  unfold seqK at h
  cases hx : o1.x with
  | normal =>
    rw [hx] at h
    have := hS.code h h1 h3 (fun l hl => h2.sub l (hr l hl))
    rw [fen_ext h2 hr] at this
    exact wpIn_mono this fun e a w hc => hc.weaken h2
  | exit id =>
    rw [hx] at h
    cases h
    exact ⟨by rw [hx], σ', D', h1, h2, h3⟩
  | ret =>
    rw [hx] at h
    cases h
    exact ⟨by rw [hx], σ', D', h1, h2, h3⟩
theorem loop_step {k : Nat} {F : Fns} (hS : Sound k F) {n : Nat} {r : Option Nat} {c : Code} {tm : T AV} {df : List Dfr} {a : Act} {o : Out}
    (h : codeA F n r (.loop c) tm df s = some o) (g : Good B Fm σ D s w) (ht : Fr σ D n tm df a) (hr : ∀ l, r = some l → D l) : Code.roundsIn (fen σ r) 0 PP c (CPost B Fm σ D n o) (k + 1) a w := by
  replace h : oB (F.code n r c tm df s) (seqK F n r (.loop c)) = some o := h
  (have ⟨o1, h1, hNew⟩ := oB_of h; replace h := hNew; clear hNew)
  refine wpIn_mono (hS.code h1 g ht hr) fun e a' w' hc => ?_
  obtain ⟨rfl, σ', D', k1, k2, k3⟩ := hc
  unfold seqK at h
  cases hx : o1.x with
  | normal =>
    rw [hx] at h
    have := hS.loop h k1 k3 (fun l hl => k2.sub l (hr l hl))
    rw [fen_ext k2 hr] at this
    have mono : ∀ m a w, Code.roundsIn (fen σ r) 0 PP c (CPost B Fm σ' D' n o) m a w → Code.roundsIn (fen σ r) 0 PP c (CPost B Fm σ D n o) m a w := by
      intro m
      induction m with
      | zero => intro a w h; exact h
      | succ m ih =>
        intro a w h
        refine wpIn_mono h fun e a w hc => ?_
        cases e <;> first | exact ih _ _ hc | exact CPost.weaken k2 hc
    exact mono _ _ _ this
  | exit id =>
    rw [hx] at h
    cases h
    exact ⟨by rw [hx], σ', D', k1, k2, k3⟩
  | ret =>
    rw [hx] at h
    cases h
    exact ⟨by rw [hx], σ', D', k1, k2, k3⟩
theorem defer_region {n : Nat} {r : Option Nat} {id : Nat} {ops : Array Oper} {tm : T AV} {df : List Dfr} {a : Act} {o : Out} (h : deferA n r ops.toList tm df s = some o) (g : Good B Fm σ D s w) (ht : Fr σ D n tm df a) :
    (Code.region id ops false).wpIn (fen σ r) 0 PP (CPost B Fm σ D n o) a w := by
  unfold deferA at h
  split at h
  · cases h
  split at h
  · rename_i x d hops
    split at h
    · rename_i y hop
      split at h
      · cases h
      rename_i hg1
      split at h
      · rename_i c hop2
        split at h
        · cases h
        rename_i hg2
        split at h
        · cases h
        rename_i hdst
        (have ⟨v, h1, hNew⟩ := oB_of h; replace h := hNew; clear hNew)
        (have ⟨tm', h2, hNew⟩ := oB_of h; replace h := hNew; clear hNew)
        (have ⟨args, h3, hNew⟩ := oB_of h; replace h := hNew; clear hNew)
        split at h
        · rename_i f hcal
          (have ⟨gf, h4, hNew⟩ := oB_of h; replace h := hNew; clear hNew)
          split at h
          · rename_i hf first
            cases h
            refine wpIn_region ?_
            have e := wpOpsIn_eq_wpListIn (F := fen σ none) (n := 0) (P := PP) (ops := ops) (Q := CPost B Fm σ D n ⟨.normal, tm', .call hf (appL first args) :: df, s⟩) ops.toList 0 (fun j => by simp)
            rw [List.range_eq_range', show ops.size = ops.toList.length by simp, e, hops]
            obtain ⟨e1, o1⟩ := ev_of ht.tm h1
            have hfr := ht.put h2 o1
            obtain ⟨e3, o3⟩ := evs_ok (EvOk.of_tm hfr.tm _) h3
            obtain ⟨e4, o4⟩ := ev_of hfr.tm h4
            simp only [On, OnL, and_true] at o4
            have hargs : c.args.map (a.put x.dst (conc σ v)).eval = (concL σ args).toArray := by
              apply Array.ext'
              simp [e3]
            unfold wpListIn
            rw [if_pos (by unfold Region.wanted; rw [hg1])]
            refine ⟨fun f _ => trivial, ?_⟩
            rw [show (fen σ none).round = none from rfl, Oper.semAt_none]
            simp only [execOp, hop, Sem.run_pure, Oper.uponIn_value, e1]
            unfold wpListIn
            rw [if_pos (by unfold Region.wanted; rw [hg2])]
            refine ⟨fun f _ => trivial, ?_⟩
            rw [show (fen σ none).round = none from rfl, Oper.semAt_none]
            simp only [execOp, hop2, resolve, hcal, e4, conc, concL, Deferred.ofValue, hargs, Sem.run_bind, Sem.run_pure, Result.andThen_ok, Oper.uponIn_defer, hdst]
            unfold wpListIn
            refine ⟨rfl, σ, D, g, Ext.refl _ _, hfr.tm, ?_, ?_⟩
            · simp only [List.map_cons, mrk, appL_eq, concL_append]
              rw [hfr.df]
              simp [Act.put]
            · intro q hq
              rcases List.mem_cons.1 hq with rfl | hq
              · simp only [OnDf, appL_eq, onL_append]
                exact ⟨o4, o3⟩
              · exact hfr.on q hq
          · cases h
        · cases h
      · cases h
    · cases h
  · cases h
theorem code_step (hF : Facts) (hDr : DrawOk) {k : Nat} {F : Fns} (hS : Sound k F) {n : Nat} {r : Option Nat} {c : Code} {tm : T AV} {df : List Dfr} {a : Act} {o : Out}
    (h : codeA F n r c tm df s = some o) (g : Good B Fm σ D s w) (ht : Fr σ D n tm df a) (hr : ∀ l, r = some l → D l) : c.wpIn (fen σ r) 0 PP (CPost B Fm σ D n o) a w := by
  have here : ∀ x, CPost B Fm σ D n ⟨x, tm, df, s⟩ (exitOf x) a w := fun x => ⟨rfl, σ, D, g, Ext.refl _ _, ht⟩
  cases c with
  | skip => cases h; exact wpIn_skip (here .normal)
  | label l => cases h; exact wpIn_label (here .normal)
  | region id ops draw =>
    cases draw with
    | false =>
      replace h : ifB (lastDefer ops.toList) (deferA n r ops.toList tm df s) (ifB (noComm ops.toList) (oB (F.ops n ops.toList ops.toList tm s) fun p => some ⟨.normal, p.1, df, p.2⟩) (oB (opsC n ops.toList ops.toList tm s) fun p => some ⟨.normal, p.1, df, p.2⟩)) = some o := h
      cases hld : lastDefer ops.toList with
      | true =>
        rw [hld, ifB_true] at h
        exact defer_region h g ht
      | false =>
      rw [hld, ifB_false] at h
      cases hnc : noComm ops.toList with
      | false =>
        rw [hnc, ifB_false] at h
        (have ⟨p, h1, hNew⟩ := oB_of h; replace h := hNew; clear hNew)
        cases h
        exact comm_region hF h1 g ht
      | true =>
      rw [hnc, ifB_true] at h
      (have ⟨p, h1, hNew⟩ := oB_of h; replace h := hNew; clear hNew)
      cases h
      refine wpIn_region ?_
      have e := wpOpsIn_eq_wpListIn (F := fen σ r) (n := 0) (P := PP) (ops := ops) (Q := CPost B Fm σ D n ⟨.normal, p.1, df, p.2⟩) ops.toList 0 (fun j => by simp)
      rw [List.range_eq_range', show ops.size = ops.toList.length by simp, e]
      exact hS.ops h1 g ht hr (fun a' w' hc => hc)
    | true =>
      replace h : gd (regionOk ops.toList) (oB (F.draw n ops.toList (orderOf ops.toList) ⟨tm, s, [], [], []⟩) fun d => gd (Nat.ble d.s.nx top) (some ⟨.normal, d.tm, df, publish d.pds d.s⟩)) = some o := h
      (have ⟨h0, hNew⟩ := gd_of h; replace h := hNew; clear hNew)
      (have ⟨d, h1, hNew⟩ := oB_of h; replace h := hNew; clear hNew)
      (have ⟨h2, hNew⟩ := gd_of h; replace h := hNew; clear hNew)
      cases h
      obtain ⟨ts, htr⟩ := hS.draw h1
      exact hDr h0 htr (by simpa [nble] using h2) g ht hr
  | seq x y =>
    replace h : oB (F.code n r x tm df s) (seqK F n r y) = some o := h
    (have ⟨o1, h1, hNew⟩ := oB_of h; replace h := hNew; clear hNew)
    exact wpIn_seq (wpIn_mono (hS.code h1 g ht hr) fun e a' w' hc => seqK_of hS h hr hc)
  | cond c x y =>
    replace h : oB (ev c tm) (condK F n r x y tm df s) = some o := h
    (have ⟨v, h1, hNew⟩ := oB_of h; replace h := hNew; clear hNew)
    (have ⟨b, h2, hNew⟩ := oB_of h; replace h := hNew; clear hNew)
    obtain ⟨e1, _⟩ := ev_of ht.tm h1
    rw [isBool_of h2] at e1
    refine wpIn_cond (t := b) (by rw [e1]; simp [conc]) ?_
    cases b with
    | true => rw [ifB_true] at h; exact hS.code h g ht hr
    | false => rw [ifB_false] at h; exact hS.code h g ht hr
  | block id body =>
    replace h : (oB (F.code n r body tm df s) fun o => some (blockK id o)) = some o := h
    (have ⟨o1, h1, hNew⟩ := oB_of h; replace h := hNew; clear hNew)
    cases h
    refine wpIn_block (wpIn_mono (hS.code h1 g ht hr) fun e a' w' hc => ?_)
    obtain ⟨rfl, k⟩ := hc
    unfold blockK
    cases hx : o1.x with
    | normal => exact ⟨by rw [hx], k⟩
    | ret => exact ⟨by rw [hx], k⟩
    | exit id' =>
      simp only [exitOf, Exit.inBlock]
      rw [nbeq]
      by_cases hid : id' = id
      · simp only [hid, if_true, decide_true, ifB_true]
        exact ⟨rfl, k⟩
      · simp only [hid, if_false, decide_false, ifB_false]
        exact ⟨by rw [hx]; rfl, k⟩
  | loop body => exact wpIn_loop_rounds _ (loop_step hS h g ht hr)
  | exit id => cases h; exact wpIn_exit (here (.exit id))
  | ret => cases h; exact wpIn_ret (here .ret)
  | rangeFunc f params assign body => exact code_range hF hS h g ht hr
  | _ => cases h
theorem putParams_of {n : Nat} : ∀ {ps : List Tmp} {args : List AV} {tm tm' : T AV} {a : Act}, putParams n ps args tm = some tm' → Tm σ D n tm a.tmps → OnL D args →
    Tm σ D n tm' ((ps.zip (concL σ args)).foldl (fun tmps (t, v) => tmps.setIfInBounds t v) a.tmps)
  | [], args, tm, tm', a, h, ht, ho => by
    have : putParams n [] args tm = some tm := by cases args <;> rfl
    rw [this] at h; cases h
    simpa using ht
  | p :: ps, [], tm, tm', a, h, ht, ho => by
    cases h
    simpa [concL] using ht
  | p :: ps, x :: l, tm, tm', a, h, ht, ho => by
    replace h : oB (putA n tm (some p) x) (putParams n ps l) = some tm' := h
    (have ⟨t1, h1, hNew⟩ := oB_of h; replace h := hNew; clear hNew)
    simp only [OnL] at ho
    have := putParams_of (a := a.put (some p) (conc σ x)) h (ht.put h1 ho.1) ho.2
    simpa [concL, Act.put] using this
theorem roundEnd_of {b : Nat} {o : Out} {p : AV × St} {n : Nat} (h : roundEnd b o = some p) {e : Exit} {a' : Act} {w' : World} (hD : D b) (hc : CPost B Fm σ D n o e a' w') : roundPost PP (σ b).b (Ret B Fm σ D p) e a' w' := by
  obtain ⟨rfl, σ', D', k1, k2, k3⟩ := hc
  (have ⟨lp, hl, hNew⟩ := oB_of h; replace h := hNew; clear hNew)
  obtain ⟨_, _, L, hL, hrl⟩ := k1.loop hl
  obtain ⟨r1, r2, r3, r4, r5, r6, r7, r8⟩ := hrl
  split at h
  · have hb := k2.same b hD
    have fin : ∀ (st : LoopState) (jump : Option Code), st = (if jump.isNone then .ready else .done) → some (AV.bool jump.isNone, o.s.put b (.loop { lp with st := st, pend := jump })) = some p →
        ∃ v w'', (Instr.endRound (σ b).b jump).run PP w' = .ok v w'' ∧ Ret B Fm σ D p (.returned v) w'' := by
      intro st jump hst h
      cases h
      obtain ⟨u1, u2⟩ := k1.setLoop (lp' := { lp with st := st, pend := jump }) (L' := { L with state := (if jump.isNone then .ready else .done), pending := jump }) hl hL ⟨hst.symm, rfl, r3, r4, r5, r6, r7, r8⟩
      rw [hb] at hL u1 u2
      refine ⟨.bool jump.isNone, _, ?_, σ', D', by simp [conc], u2, k2, by simp [On]⟩
      simp only [Instr.endRound, Sem.run_bind, get_loop hL, Result.andThen_ok, u1, Sem.run_pure]
    split at h
    · rename_i hx
      rw [hx]
      exact fin .ready none rfl h
    · rename_i id hx
      rw [hx]
      exact fin .done (some (.exit id)) rfl h
    · rename_i hx
      rw [hx]
      exact fin .done (some .ret) rfl h
  · cases h
theorem round_step {k : Nat} {F : Fns} (hS : Sound k F) {b : Nat} {args : List AV} {p : AV × St} (h : roundF F b args s = some p) (g : Good B Fm σ D s w) (ho : OnL D args) (hD : D b) :
    ∃ fn tmps assign body, (Instr.yield (σ b).b (concL σ args).toArray).run PP w = .ok (.round (σ b).b fn tmps assign body) w ∧ RoundIn Fence.wide 0 PP (σ b).b fn tmps assign body w (Ret B Fm σ D p) := by
  (have ⟨lp, h1, hNew⟩ := oB_of h; replace h := hNew; clear hNew)
  (have ⟨h2, hNew⟩ := gd_of h; replace h := hNew; clear hNew)
  (have ⟨tm, h3, hNew⟩ := oB_of h; replace h := hNew; clear hNew)
  (have ⟨o1, h4, hNew⟩ := oB_of h; replace h := hNew; clear hNew)
  obtain ⟨_, _, L, hL, hrl⟩ := g.loop h1
  obtain ⟨r1, r2, r3, r4, r5, r6, r7, r8⟩ := hrl
  have hlen : args.length = lp.params.length := by simpa [nbeq, lenL_eq] using h2
  have hps : L.params.size = args.length := by rw [← Array.length_toList, r4, hlen]
  refine ⟨L.fn, (L.params.zip (concL σ args).toArray).foldl (fun tmps (t, v) => tmps.setIfInBounds t v) L.tmps, lp.assign, lp.body, ?_, ?_⟩
  · have : ¬ ((concL σ args).toArray.size ≠ L.params.size) := by simp [concL_length, hps]
    simp only [Instr.yield, Sem.run_bind, get_loop hL, Result.andThen_ok, this, if_false, Sem.run_pure, r5, r6]
  · refine roundIn_of_wpIn trivial ?_
    have htm := putParams_of (a := { tmps := L.tmps, defers := [] }) h3 r3 ho
    have hfr : Fr σ D lp.n tm [] { tmps := (L.params.zip (concL σ args).toArray).foldl (fun tmps (t, v) => tmps.setIfInBounds t v) L.tmps, defers := [] } := by
      refine ⟨?_, rfl, by simp⟩
      have e : (L.params.zip (concL σ args).toArray).foldl (fun tmps (t, v) => tmps.setIfInBounds t v) L.tmps = (lp.params.zip (concL σ args)).foldl (fun tmps (t, v) => tmps.setIfInBounds t v) L.tmps := by
        rw [← Array.foldl_toList, Array.toList_zip, r4]
      simp only [e]
      exact htm
    refine wpIn_mono (hS.code (r := some b) h4 g hfr (fun l hl => by cases hl; exact hD)) fun e a1 w1 hc => ?_
    obtain ⟨rfl, σ1, D1, k1, k2, k3⟩ := hc
    (have ⟨lp1, h5, hNew⟩ := oB_of h; replace h := hNew; clear hNew)
    obtain ⟨_, _, L1, hL1, hrl1⟩ := k1.loop h5
    obtain ⟨q1, q2, q3, q4, q5, q6, q7, q8⟩ := hrl1
    split at h
    · rename_i hst hx hdf
      (have ⟨o2, h6, hNew⟩ := oB_of h; replace h := hNew; clear hNew)
      rw [hx]
      have hb := k2.same b hD
      obtain ⟨u1, u2⟩ := k1.setLoop (lp' := { lp1 with st := .busy }) (L' := { L1 with state := .busy }) h5 hL1 ⟨rfl, q2, q3, q4, q5, q6, q7, q8⟩
      refine ⟨{ w1 with heap := w1.heap.setIfInBounds (σ1 b).b (.loop { L1 with state := .busy }) }, ?_, ?_⟩
      · rw [← hb]
        have hs : L1.state = .ready := by rw [q1, hst]
        simp only [Instr.beginRound, Sem.run_bind, get_loop hL1, Result.andThen_ok, u1, hs, Sem.run_pure]
      · rw [hdf] at k3
        have := hS.code (r := some b) h6 u2 k3 (fun l hl => by cases hl; exact k2.sub _ hD)
        have hfe : fen σ1 (some b) = Fence.wide.inRound (σ b).b := by simp only [fen, Option.map_some, hb]; rfl
        rw [hfe] at this
        refine wpIn_mono this fun e a2 w2 hc => ?_
        have hfin := roundEnd_of (σ := σ1) (D := D1) h (k2.sub _ hD) hc
        rw [hb] at hfin
        cases e <;> simp only [roundPost] at hfin ⊢ <;> first
          | exact hfin
          | (obtain ⟨v, w4, z1, z2⟩ := hfin; exact ⟨v, w4, z1, z2.weaken k2⟩)
    · cases h
end
end Go.Ev

set_option linter.unusedVariables false
set_option linter.unusedSimpArgs false
namespace Go.Ev
open Go.RowKit (Below)
section
variable {B : World} {Fm : Nat → Option Obj} {σ : Sig} {D : Nat → Prop} {s : St} {w : World}
def PrimsOk (pr : Prims) : Prop := ∀ {B : World} {Fm : Nat → Option Obj} {σ : Sig} {D : Nat → Prop} {s : St} {w : World} {f : FuncId} {args : List AV} {p : AV × St},
    pr f args s = some p → Good B Fm σ D s w → OnL D args → CallsIn Fence.wide 0 PP f (concL σ args).toArray w (Ret B Fm σ D p)
theorem argsT_get : ∀ (l : List AV) (k : Nat) (tm : T AV), k + l.length ≤ top → ∀ t, tmA (argsT l k tm) t = if k ≤ t ∧ t < k + l.length then (l[t - k]?).getD undefA else tmA tm t
  | [], k, tm, _, t => by
    rw [if_neg (by simp only [List.length_nil]; omega)]
    rfl
  | a :: l, k, tm, h, t => by
    simp only [List.length_cons] at h ⊢
    rw [show argsT (a :: l) k tm = argsT l (k + 1) (tm.set depth k a) from rfl, argsT_get l (k + 1) _ (by omega) t]
    by_cases h1 : k + 1 ≤ t ∧ t < k + 1 + l.length
    · rw [if_pos h1, if_pos (by omega), show t - k = (t - (k + 1)) + 1 by omega, List.getElem?_cons_succ]
    · rw [if_neg h1]
      have hs : tmA (tm.set depth k a) t = if t = k then a else tmA tm t := by
        unfold tmA
        rw [T.get_set' tm a (by omega) t]
        split <;> rfl
      rw [hs]
      by_cases h2 : t = k
      · subst h2
        rw [if_pos rfl, if_pos (by omega), Nat.sub_self]
        simp
      · rw [if_neg h2, if_neg (by omega)]
theorem args_tm {args : List AV} {m : Nat} (ho : OnL D args) (h : args.length + m ≤ top) : Tm σ D (args.length + m) (argsT args 0 .nil) ((concL σ args).toArray ++ Array.replicate m undef) := by
  have hget := argsT_get args 0 .nil (by omega)
  refine ⟨by simp [concL_length], h, fun t => ?_, fun t => ?_⟩
  · rw [hget t]
    by_cases ht : t < args.length
    · rw [if_pos ⟨Nat.zero_le _, by omega⟩]
      have h1 : (concL σ args)[t]? = some (conc σ args[t]) := by rw [concL_eq, List.getElem?_map, List.getElem?_eq_getElem ht]; rfl
      have h2 : ((concL σ args).toArray ++ Array.replicate m undef)[t]? = some (conc σ args[t]) := by
        rw [Array.getElem?_append_left (by simp [concL_length, ht])]
        simpa using h1
      simp [h2, ht]
    · rw [if_neg (by omega)]
      have h2 : ((concL σ args).toArray ++ Array.replicate m undef).getD t undef = undef := by
        rw [Array.getD_eq_getD_getElem?, Array.getElem?_append_right (by simp [concL_length]; omega), Array.getElem?_replicate]
        split <;> rfl
      rw [h2]
      simp [tmA, undefA, conc, concL, undef]
  · rw [hget t]
    split
    · rename_i hh
      simp only [Nat.sub_zero]
      cases hq : args[t]? with
      | none => simp [undefA, On, OnL]
      | some v => simpa using (onL_iff _ _).1 ho v (List.mem_of_getElem? hq)
    · simp [tmA, undefA, On, OnL]
theorem resultsA_of {n : Nat} {tm : T AV} {a : Act} (g : Good B Fm σ D s w) (ht : Tm σ D n tm a.tmps) : ∀ {rs : List ResultVar} {l : List AV}, resultsA s tm rs = some l →
    (rs.mapM (m := Sem) fun
      | .tmp t => pure (a.tmps.getD t undef)
      | .cell c t => do loadVar t (← asAddr (a.tmps.getD c undef))).run PP w = .ok (concL σ l) w ∧ OnL D l
  | [], l, h => by cases h; simp [concL, OnL]
  | r :: rs, l, h => by
    replace h : (oB (resultA s tm r) fun v => oB (resultsA s tm rs) fun vs => some (v :: vs)) = some l := h
    (have ⟨v, h1, hNew⟩ := oB_of h; replace h := hNew; clear hNew)
    (have ⟨vs, h2, hNew⟩ := oB_of h; replace h := hNew; clear hNew)
    cases h
    obtain ⟨k1, k2⟩ := resultsA_of g ht h2
    cases r with
    | tmp t =>
      cases h1
      refine ⟨?_, ht.on t, k2⟩
      have hv := ht.val t
      simp only [List.mapM_cons, Sem.run_bind, Sem.run_pure, Result.andThen_ok, k1, hv, concL]
    | cell c t =>
      replace h1 : loadA s t (tmA tm c) = some v := h1
      obtain ⟨q1, q2⟩ := loadA_of g h1
      refine ⟨?_, q2, k2⟩
      have hv := ht.val c
      obtain ⟨p, hp, _⟩ := oB_of h1
      have e := isPtr_of hp
      rw [e] at q1 hv
      simp only [conc, Instr.loadAt, Instr.sureAddr, Sem.run_bind, Sem.run_pure, Result.andThen_ok] at q1 hv
      have has : asAddr (.pointer (some ⟨(σ p.1).b, p.2, none⟩)) = pure ⟨(σ p.1).b, p.2, none⟩ := rfl
      simp only [List.mapM_cons, Sem.run_bind, Sem.run_pure, Result.andThen_ok, k1, hv, has, q1, concL]
theorem results_of {n : Nat} {fn : Func} {tm : T AV} {a : Act} {l : List AV} (g : Good B Fm σ D s w) (ht : Tm σ D n tm a.tmps) (h : resultsA s tm fn.results.toList = some l) :
    (results fn a.tmps).run PP w = .ok (conc σ (oneOrTuple l)) w ∧ On D (oneOrTuple l) := by
  obtain ⟨k1, k2⟩ := resultsA_of g ht h
  have hm : (fn.results.mapM (m := Sem) fun
      | .tmp t => pure (a.tmps.getD t undef)
      | .cell c t => do loadVar t (← asAddr (a.tmps.getD c undef))).run PP w = .ok (concL σ l).toArray w := by
    rw [Array.mapM_eq_mapM_toList, map_eq_pure_bind]
    simp only [Sem.run_bind, k1, Result.andThen_ok, Sem.run_pure]
  refine ⟨?_, ?_⟩
  · unfold results
    rw [Sem.run_bind]
    refine (congrArg (fun r => Result.andThen r fun vs w' => (pure (if h : vs.size = 1 then vs[0] else Value.tuple vs) : Sem Value).run PP w') hm).trans ?_
    simp only [Result.andThen_ok, Sem.run_pure]
    congr 1
    match l with
    | [] => simp [concL, oneOrTuple, conc]
    | [v] => simp [concL, oneOrTuple]
    | v :: u :: l => simp [concL, oneOrTuple, conc]
  · match l, k2 with
    | [], _ => simp [oneOrTuple, On, OnL]
    | [v], k2 => simpa [oneOrTuple, OnL] using k2
    | v :: u :: l, k2 => simpa [oneOrTuple, On] using k2
theorem callD_in {k : Nat} {F : Fns} (hS : Sound k F) {f : FuncId} {args : List AV} {p : AV × St} {σ : Sig} {D : Nat → Prop} {s : St} {w : World} (h : callD F f args s = some p) (g : Good B Fm σ D s w) (ho : OnL D args) (u : FrameMode) :
    CallsDIn Fence.wide 0 PP f (concL σ args).toArray u w fun e u' w' => u' = u ∧ Ret B Fm σ D p e w' := by
  unfold callD at h
  (have ⟨fn, h1, hNew⟩ := oB_of h; replace h := hNew; clear hNew)
  (have ⟨c, h2, hNew⟩ := oB_of h; replace h := hNew; clear hNew)
  (have ⟨h3, hNew⟩ := gd_of h; replace h := hNew; clear hNew)
  (have ⟨o, h4, hNew⟩ := oB_of h; replace h := hNew; clear hNew)
  (have ⟨h5, hNew⟩ := gd_of h; replace h := hNew; clear hNew)
  split at h
  · rename_i hdf
    (have ⟨l, h7, hNew⟩ := oB_of h; replace h := hNew; clear hNew)
    cases h
    have hfr : frameA fn args = args.length + (fn.ntmps - args.length) := by
      unfold frameA
      rw [lenL_eq]
      cases args.length + (fn.ntmps - args.length) <;> rfl
    rw [hfr] at h3 h4
    have hlim : args.length + (fn.ntmps - args.length) ≤ top := by simpa [nble] using h3
    refine callsDIn_of_wp h1 h2 trivial ?_
    have hsz : (concL σ args).toArray.size = args.length := by simp [concL_length]
    rw [hsz]
    refine wpIn_mono (hS.code (r := none) h4 g ⟨args_tm ho hlim, rfl, by simp⟩ (fun l hl => by cases hl)) fun e a' w' hc => ?_
    obtain ⟨rfl, σ', D', k1, k2, k3⟩ := hc
    have hd : a'.defers = [] := by rw [k3.df, hdf]; rfl
    obtain ⟨q1, q2⟩ := results_of k1 k3.tm h7
    cases hx : o.x with
    | normal => exact ⟨hd, _, q1, σ', D', rfl, k1, k2, q2⟩
    | ret => exact ⟨hd, _, q1, σ', D', rfl, k1, k2, q2⟩
    | exit id => rw [hx] at h5; simp [atEnd] at h5
  · cases h
theorem leaves_marks (hF : Facts) {k : Nat} {F : Fns} (hS : Sound k F) {fn : Func} {tmps : Array Value} {R : Ending → World → Prop} : ∀ {df : List Dfr} {σ : Sig} {D : Nat → Prop} {s s' : St} {w : World}, takeMarks F df s = some s' → Good B Fm σ D s w → (∀ d ∈ df, OnDf D d) →
    (∀ σ' D' w', Ext σ D σ' D' → Good B Fm σ' D' s' w' → LeavesInM Fence.wide 0 PP fn tmps R [] .returning w') → LeavesInM Fence.wide 0 PP fn tmps R (df.map (mrk σ)) .returning w
  | [], σ, D, s, s', w, h, g, _, hk => by cases h; exact hk σ D w (Ext.refl _ _) g
  | .mark b :: df, σ, D, s, s', w, h, g, hd, hk => by
    unfold takeMarks at h
    simp only at h
    split at h
    · rename_i hb
      obtain ⟨hd', ob, h1, h2⟩ := g.heap b _ hb (by simp)
      cases ob <;> simp only [ORel] at h2
      subst h2
      have hs : (σ b).b < w.heap.size := (Array.getElem?_eq_some_iff.1 h1).1
      refine ⟨by simp, .inl ⟨(σ b).b, { w with heap := w.heap.setIfInBounds (σ b).b (.deferred none) }, rfl, ?_, ?_⟩⟩
      · have hg : (getObj (σ b).b).run PP w = .ok (.deferred (some [])) w := by simp [getObj, Sem.run, h1]
        have hst : (setObj (σ b).b (.deferred none)).run PP w = .ok () { w with heap := w.heap.setIfInBounds (σ b).b (.deferred none) } := by simp [setObj, Sem.run, h1]
        simp only [Instr.takeDeferred, Sem.run_bind, hg, Result.andThen_ok, hst, Sem.run_pure]
      · refine leaves_marks hF hS h (g.put ⟨_, hb, by simp⟩ (ob := .deferred none) rfl rfl rfl rfl (by simp) (by simp [hs]) (fun i hi => Array.getElem?_setIfInBounds_ne (Ne.symm hi))) (fun d hm => hd d (List.mem_cons_of_mem _ hm)) hk
    · cases h
  | .call f args :: df, σ, D, s, s', w, h, g, hd, hk => by
    unfold takeMarks at h
    simp only at h
    (have ⟨p, h1, hNew⟩ := oB_of h; replace h := hNew; clear hNew)
    have ho : OnL D args := hd _ List.mem_cons_self
    have hen : (callFunc f (concL σ args).toArray).run PP w = .ok (.enter f (concL σ args).toArray) w := by
      have hc : callFuncA s f args = some (.enter f args s) := by
        unfold callD at h1
        (have ⟨fn, k1, hNew⟩ := oB_of h1; replace h1 := hNew; clear hNew)
        (have ⟨c, k2, hNew⟩ := oB_of h1; replace h1 := hNew; clear hNew)
        unfold callFuncA
        rw [k1]
        show ifB fn.body.isSome _ _ = _
        rw [k2]
        rfl
      exact (callFuncA_of hF g hc ho).2.1
    refine ⟨by simp, .inr ⟨by simp [Fence.wide], .func f, #[], f, (concL σ args).toArray, rfl, ?_, fun _ _ => trivial, ?_⟩⟩
    · show (callFunc f ((concL σ args).toArray ++ #[])).run PP w = _
      rw [Array.append_empty]
      exact hen
    · refine (callD_in hS h1 g ho .returning).mono ?_
      rintro e u' w' ⟨rfl, σ', D', rfl, g', x, _⟩
      have e2 : df.map (mrk σ) = df.map (mrk σ') := List.map_congr_left fun d hm => (mrk_ext x (hd d (List.mem_cons_of_mem _ hm))).symm
      show LeavesInM Fence.wide 0 PP fn tmps R (df.map (mrk σ)) .returning w'
      rw [e2]
      exact leaves_marks hF hS h g' (fun d hm => onDf_ext x (hd d (List.mem_cons_of_mem _ hm))) (fun σ'' D'' w'' x' g'' => hk σ'' D'' w'' (x.trans x') g'')
theorem call_step (hF : Facts) {k : Nat} {F : Fns} (hS : Sound k F) {pr : Prims} (hpr : PrimsOk pr) {f : FuncId} {args : List AV} {p : AV × St} (h : callF F pr f args s = some p) (g : Good B Fm σ D s w) (ho : OnL D args) :
    CallsIn Fence.wide 0 PP f (concL σ args).toArray w (Ret B Fm σ D p) := by
  unfold callF at h
  split at h
  · rename_i q hq
    cases h
    exact hpr hq g ho
  · (have ⟨fn, h1, hNew⟩ := oB_of h; replace h := hNew; clear hNew)
    (have ⟨c, h2, hNew⟩ := oB_of h; replace h := hNew; clear hNew)
    (have ⟨h3, hNew⟩ := gd_of h; replace h := hNew; clear hNew)
    (have ⟨o, h4, hNew⟩ := oB_of h; replace h := hNew; clear hNew)
    (have ⟨h5, hNew⟩ := gd_of h; replace h := hNew; clear hNew)
    (have ⟨s', h6, hNew⟩ := oB_of h; replace h := hNew; clear hNew)
    (have ⟨l, h7, hNew⟩ := oB_of h; replace h := hNew; clear hNew)
    cases h
    have hfr : frameA fn args = args.length + (fn.ntmps - args.length) := by
      unfold frameA
      rw [lenL_eq]
      cases args.length + (fn.ntmps - args.length) <;> rfl
    rw [hfr] at h3 h4
    have hlim : args.length + (fn.ntmps - args.length) ≤ top := by simpa [nble] using h3
    refine callsIn_of_wp_marks h1 h2 trivial ?_
    have hsz : (concL σ args).toArray.size = args.length := by simp [concL_length]
    rw [hsz]
    refine wpIn_mono (hS.code (r := none) h4 g ⟨args_tm ho hlim, rfl, by simp⟩ (fun l hl => by cases hl)) fun e a' w' hc => ?_
    obtain ⟨rfl, σ', D', k1, k2, k3⟩ := hc
    have hlv : LeavesInM Fence.wide 0 PP fn a'.tmps (Ret B Fm σ D (oneOrTuple l, s')) a'.defers .returning w' := by
      rw [k3.df]
      refine leaves_marks hF hS h6 k1 k3.on fun σ'' D'' w'' x g' => ?_
      obtain ⟨q1, q2⟩ := results_of g' (x.tm k3.tm) h7
      exact ⟨_, q1, σ'', D'', rfl, g', k2.trans x, q2⟩
    cases hx : o.x with
    | normal => exact hlv
    | ret => exact hlv
    | exit id => rw [hx] at h5; simp [atEnd] at h5
end
end Go.Ev

set_option linter.unusedVariables false
set_option linter.unusedSimpArgs false
namespace Go.Ev
open Go.RowKit (Below)
open Go.MapKept (Stamped)
section
variable {B : World} {Fm : Nat → Option Obj} {σ : Sig} {D : Nat → Prop} {s : St} {w : World}
theorem Good.belowW (g : Good B Fm σ D s w) {w' : World} (h : Below w.heap.size w w') : Good B Fm σ D s w' :=
  ⟨h.os.trans g.os, h.tape.trans g.tape, h.output.trans g.output, Nat.le_trans g.most h.size, g.lim, g.below, fun b o h1 h2 => by
    obtain ⟨k1, ob, k2, k3⟩ := g.heap b o h1 h2
    exact ⟨k1, ob, by rw [h.block _ (g.size b k1)]; exact k2, k3⟩, g.inj, fun b hb => Nat.lt_of_lt_of_le (g.size b hb) h.size, fun i o hi => by
    have h1 := g.frame i o hi
    rw [h.block i (Array.getElem?_eq_some_iff.1 h1).1]; exact h1, g.apart⟩
theorem Good.place (g : Good B Fm σ D s w) {w' : World} (hbw : Below w.heap.size w w') {o : AO} {ob : Obj} {n b gb : Nat} {s' : St} (h : s.new o = some (b, s')) (hge : w.heap.size ≤ gb) (hob : w'.heap[gb]? = some ob)
    (hr : ORel (upd σ s.nx ⟨gb, n⟩) (plus D s.nx) ⟨gb, n⟩ o ob) : Good B Fm (upd σ s.nx ⟨gb, n⟩) (plus D s.nx) s' w' := by
  obtain ⟨ht, rfl, rfl⟩ := new_of h
  have hext : Ext σ D (upd σ s.nx ⟨gb, n⟩) (plus D s.nx) := ext_upd g.fresh
  have hold : ∀ c, D c → c ≠ s.nx := fun c hc e => g.fresh (e ▸ hc)
  have hal : ∀ c, alive ⟨s.h.set depth s.nx o, s.nx + 1⟩ c → c = s.nx ∨ (c ≠ s.nx ∧ alive s c) := by
    rintro c ⟨q, hq, hne⟩
    rw [get_new ht] at hq
    by_cases hc : c = s.nx
    · exact .inl hc
    · rw [if_neg hc] at hq
      exact .inr ⟨hc, q, hq, hne⟩
  have hin : ∀ c, alive s c → D c := fun c ⟨q, hq, hne⟩ => (g.heap c q hq hne).1
  have hgb : gb < w'.heap.size := (Array.getElem?_eq_some_iff.1 hob).1
  refine ⟨hbw.os.trans g.os, hbw.tape.trans g.tape, hbw.output.trans g.output, Nat.le_trans g.most hbw.size, ht, ?_, ?_, ?_, ?_, ?_, ?_⟩
  · rintro c (hc | rfl)
    · have := g.below c hc; simp only; omega
    · simp only; omega
  · intro c q hq hne
    rw [get_new ht] at hq
    by_cases hc : c = s.nx
    · subst hc
      rw [if_pos rfl] at hq
      cases hq
      refine ⟨.inr rfl, ob, ?_, ?_⟩
      · rw [upd_same]; exact hob
      · rw [upd_same]; exact hr
    · rw [if_neg hc] at hq
      obtain ⟨hd, ob', h1, h2⟩ := g.heap c q hq hne
      rw [upd_other _ _ hc]
      exact ⟨.inl hd, ob', by rw [hbw.block _ (g.size c hd)]; exact h1, hext.orel h2⟩
  · intro c d hc hd he
    rcases hal c hc with rfl | ⟨hc1, hc2⟩ <;> rcases hal d hd with rfl | ⟨hd1, hd2⟩
    · rfl
    · rw [upd_same, upd_other _ _ hd1] at he
      have := g.size d (hin d hd2); simp only at he; omega
    · rw [upd_same, upd_other _ _ hc1] at he
      have := g.size c (hin c hc2); simp only at he; omega
    · rw [upd_other _ _ hc1, upd_other _ _ hd1] at he
      exact g.inj c d hc2 hd2 he
  · rintro c (hc | rfl)
    · rw [upd_other _ _ (hold c hc)]
      exact Nat.lt_of_lt_of_le (g.size c hc) hbw.size
    · rw [upd_same]; exact hgb
  · intro i q hq
    have h1 := g.frame i q hq
    have hlt : i < w.heap.size := (Array.getElem?_eq_some_iff.1 h1).1
    rw [hbw.block i hlt]; exact h1
  · intro c hc
    rcases hal c hc with rfl | ⟨hc1, hc2⟩
    · rw [upd_same]
      cases hq : Fm gb with
      | none => rfl
      | some q =>
        have := (Array.getElem?_eq_some_iff.1 (g.frame _ q hq)).1
        omega
    · rw [upd_other _ _ hc1]; exact g.apart c hc2
/-! ### Plain lists -/
theorem insSort_perm (x : Int) : ∀ l : List Int, (insSort x l).Perm (x :: l)
  | [] => .refl _
  | y :: r => by
    have e : insSort x (y :: r) = ifB (ltA y x) (y :: insSort x r) (x :: y :: r) := rfl
    rw [e]
    cases ltA y x with
    | true => exact ((insSort_perm x r).cons y).trans (.swap x y r)
    | false => exact .refl _
theorem sortI_perm : ∀ l : List Int, (sortI l).Perm l
  | [] => .refl _
  | x :: l => (insSort_perm x (sortI l)).trans ((sortI_perm l).cons x)
theorem strictFrom_of : ∀ {l : List Int} {x : Int}, strictFrom l x = true → (x :: l).Pairwise (· < ·)
  | [], x, _ => List.pairwise_singleton _ _
  | y :: l, x, h => by
    have e : strictFrom (y :: l) x = (ltA x y && strictFrom l y) := rfl
    rw [e, Bool.and_eq_true, ltA_eq, decide_eq_true_eq] at h
    have k := strictFrom_of h.2
    refine List.pairwise_cons.2 ⟨fun z hz => ?_, k⟩
    rcases List.mem_cons.1 hz with rfl | hz
    · exact h.1
    · have := (List.pairwise_cons.1 k).1 z hz
      omega
theorem strictA_of {l : List Int} (h : strictA l = true) : l.Pairwise (· < ·) := by
  cases l with
  | nil => exact .nil
  | cons x l => exact strictFrom_of h
theorem sorted_is {l : List Int} (h : strictA (sortI l) = true) : l.mergeSort leI = sortI l ∧ l.Nodup := by
  have k := strictA_of h
  refine ⟨?_, ?_⟩
  · rw [mergeSort_of_perm_i (sortI_perm l).symm]
    refine List.mergeSort_of_pairwise (k.imp fun {a b} hab => ?_)
    simp only [leI, decide_eq_true_eq]
    omega
  · have : (sortI l).Nodup := k.imp fun {a b} hab => by omega
    exact (sortI_perm l).nodup_iff.1 this
theorem intKeysA_of : ∀ {es : List (AV × AV × Nat)} {l : List Int}, intKeysA es = some l → es.map (·.1) = l.map fun n => AV.int .i64 n
  | [], l, h => by cases h; rfl
  | e :: es, l, h => by
    have e1 : intKeysA (e :: es) = (match e.1 with | .int .i64 n => oB (intKeysA es) fun l => some (n :: l) | _ => none) := rfl
    rw [e1] at h
    split at h
    · rename_i n hn
      (have ⟨r, h1, hNew⟩ := oB_of h; replace h := hNew; clear hNew)
      cases h
      simp [intKeysA_of h1, hn]
    · cases h
theorem stampsA_of {clock : Nat} : ∀ {es : List (AV × AV × Nat)} {lo : Nat}, stampsA clock es lo = true → (∀ e ∈ es, lo ≤ e.2.2 ∧ e.2.2 < clock) ∧ (es.map (·.2.2)).Pairwise (· < ·)
  | [], lo, _ => ⟨by simp, .nil⟩
  | e :: es, lo, h => by
    have e1 : stampsA clock (e :: es) lo = (Nat.ble lo e.2.2 && (Nat.blt e.2.2 clock && stampsA clock es (Nat.succ e.2.2))) := rfl
    rw [e1] at h
    simp only [Bool.and_eq_true, nble, nblt, decide_eq_true_eq] at h
    obtain ⟨h1, h2, h3⟩ := h
    obtain ⟨k1, k2⟩ := stampsA_of h3
    refine ⟨fun x hx => ?_, ?_⟩
    · rcases List.mem_cons.1 hx with rfl | hx
      · exact ⟨h1, h2⟩
      · have := k1 x hx
        exact ⟨by omega, this.2⟩
    · rw [List.map_cons]
      refine List.pairwise_cons.2 ⟨fun z hz => ?_, k2⟩
      obtain ⟨x, hx, rfl⟩ := List.mem_map.1 hz
      have := k1 x hx
      omega
theorem wfI_of {n : Int} (h : wfI n = true) : -9223372036854775808 ≤ n ∧ n ≤ 9223372036854775807 := by
  cases n with
  | ofNat n => simp only [wfI, nblt, decide_eq_true_eq] at h; refine ⟨?_, ?_⟩ <;> (show _ ≤ _) <;> (rw [show Int.ofNat n = (n : Int) from rfl]; omega)
  | negSucc n => simp only [wfI, nblt, decide_eq_true_eq] at h; exact ⟨by omega, by omega⟩
/-! ### The contracts -/
/-- A map's block with just these numbers as keys. -/
def KeysAt (w : World) (b : Nat) (l : List Int) : Prop :=
  ∃ es clock, w.heap[b]? = some (.map es clock) ∧ Stamped es clock ∧ es.toList.map (·.key) = l.map (Value.int .i64) ∧ l.Nodup ∧ (∀ n ∈ l, -9223372036854775808 ≤ n ∧ n ≤ 9223372036854775807) ∧ l.length ≤ 1000000
def Captured (w : World) (Bm : Nat) (l : List Int) : Prop :=
  Bm < w.heap.size ∧ ((w.cell? ⟨Bm, 0, none⟩ = some (.map none) ∧ l = []) ∨ ∃ b, w.cell? ⟨Bm, 0, none⟩ = some (.map (some b)) ∧ KeysAt w b l)
structure KeysLaw (K : Ids) : Prop where
  sorted : ∀ g ∈ K.its, ∀ (w : World) (Bm : Nat) (l : List Int), Captured w Bm l →
    CallsIn Fence.wide 0 PP K.sorted #[.func (.func g) #[] #[.pointer (some ⟨Bm, 0, none⟩)]] w fun e w' => ∃ v, e = .returned v ∧ w'.ownsRow w.heap.size K.intT 1 v l.length ((l.mergeSort leI).map encZ) ∧ (v = .slice none 0 0 ↔ l = []) ∧ Below w.heap.size w w'
  collect : ∀ g ∈ K.its, ∀ (w : World) (Bm : Nat) (l : List Int), Captured w Bm l → l.length ≤ 1 →
    CallsIn Fence.wide 0 PP K.collect #[.func (.func g) #[] #[.pointer (some ⟨Bm, 0, none⟩)]] w fun e w' => ∃ v, e = .returned v ∧ w'.ownsRow w.heap.size K.intT 1 v l.length (l.map encZ) ∧ (v = .slice none 0 0 ↔ l = []) ∧ Below w.heap.size w w'
theorem memN_mem {f : Nat} : ∀ {l : List Nat}, memN f l = true → f ∈ l
  | [], h => by cases h
  | a :: l, h => by
    replace h : ifB (Nat.beq f a) true (memN f l) = true := h
    cases e : Nat.beq f a with
    | true => simp [Nat.eq_of_beq_eq_true e]
    | false => rw [e, ifB_false] at h; simp [memN_mem h]
theorem allL_mem {α : Type} {p : α → Bool} {l : List α} (h : allL p l = true) : ∀ x ∈ l, p x = true := by
  rw [allL_eq, List.all_eq_true] at h
  exact h
theorem keysOfA_of {its : List FuncId} {args : List AV} {l : List Int} (h : keysOfA its s args = some l) (g : Good B Fm σ D s w) :
    (∃ f ∈ its, ∃ Bm, (concL σ args).toArray = #[.func (.func f) #[] #[.pointer (some ⟨Bm, 0, none⟩)]] ∧ Captured w Bm l) ∧ l.mergeSort leI = sortI l := by
  unfold keysOfA at h
  split at h
  · rename_i f b
    (have ⟨h0, hNew⟩ := gd_of h; replace h := hNew; clear hNew)
    (have ⟨r, h1, hNew⟩ := oB_of h; replace h := hNew; clear hNew)
    have hf := memN_mem h0
    obtain ⟨hd, c, fr, q1, q2⟩ := g.row h1
    have hlt : (σ b).b < w.heap.size := (Array.getElem?_eq_some_iff.1 q1).1
    have harg : (concL σ [AV.fn f [] [.ptr b 0]]).toArray = #[.func (.func f) #[] #[.pointer (some ⟨(σ b).b, 0, none⟩)]] := by simp [concL, conc]
    split at h
    · rename_i m hc
      (have ⟨q, h2, hNew⟩ := oB_of h; replace h := hNew; clear hNew)
      (have ⟨l', h3, hNew⟩ := oB_of h; replace h := hNew; clear hNew)
      (have ⟨h4, hNew⟩ := gd_of h; replace h := hNew; clear hNew)
      cases h
      simp only [Bool.and_eq_true, nble, decide_eq_true_eq, lenL_eq] at h4
      obtain ⟨k1, k2, k3, k4⟩ := h4
      obtain ⟨p1, p2⟩ := sorted_is k3
      obtain ⟨c1, _⟩ := g.cell h1 (i := 0) (v := .mp m) (by rw [hc]; rfl)
      refine ⟨⟨f, hf, (σ b).b, harg, hlt, .inr ⟨(σ m).b, c1, ?_⟩⟩, p1⟩
      obtain ⟨hd', ob, r1, r2⟩ := g.heap m _ (mapAt_of h2) (by simp)
      cases ob <;> simp only [ORel] at r2
      rename_i ces ck
      obtain ⟨rfl, r3, _⟩ := r2
      obtain ⟨s1, s2⟩ := stampsA_of k1
      have hkeys := intKeysA_of h3
      have hk : ces.toList.map (·.key) = l.map (Value.int .i64) := by
        have := congrArg (List.map (conc σ)) hkeys
        rw [List.map_map, List.map_map] at this
        rw [r3, List.map_map]
        refine Eq.trans (Eq.trans ?_ this) ?_
        · exact List.map_congr_left fun e _ => rfl
        · exact List.map_congr_left fun e _ => by simp [conc]
      refine ⟨ces, _, r1, (Go.MapKept.stamped_iff _ _).2 ⟨fun x hx => ?_, ?_, ?_⟩, hk, p2, fun n hn => wfI_of (allL_mem k2 n hn), k4⟩
      · rw [r3] at hx
        obtain ⟨e, he, rfl⟩ := List.mem_map.1 hx
        exact (s1 e he).2
      · rw [r3, List.map_map]
        have : (q.1.map ((·.born) ∘ entry σ)) = q.1.map (·.2.2) := List.map_congr_left fun e _ => rfl
        rw [this]
        exact s2.imp fun {a b} hab => by omega
      · have : (ces.toList.map (·.key)).Pairwise (· ≠ ·) := by
          rw [hk]
          exact List.pairwise_map.2 (p2.imp fun {a b} hab => by simpa using hab)
        exact List.pairwise_map.1 this
    · rename_i hc
      cases h
      obtain ⟨c1, _⟩ := g.cell h1 (i := 0) (v := .nilm) (by rw [hc]; rfl)
      exact ⟨⟨f, hf, (σ b).b, harg, hlt, .inl ⟨c1, rfl⟩⟩, by simp [sortI]⟩
    · cases h
  · cases h
theorem intCells_eq : ∀ l : List Int, intCells l = l.map fun n => AV.int .i64 n
  | [] => rfl
  | x :: l => by
    show AV.int .i64 x :: intCells l = _
    rw [intCells_eq l]; rfl
theorem rowOf_of {e : TypeId} {l : List Int} {p : AV × St} (h : rowOf s e l = some p) (g : Good B Fm σ D s w) {v : Value} {w' : World} (hb : Below w.heap.size w w') (ho : w'.ownsRow w.heap.size e 1 v l.length (l.map encZ)) (hn : v = .slice none 0 0 ↔ l = []) :
    Ret B Fm σ D p (.returned v) w' := by
  cases l with
  | nil =>
    cases h
    rw [hn.2 rfl]
    exact ⟨σ, D, by simp [conc], g.belowW hb, Ext.refl _ _, by simp [On]⟩
  | cons x r =>
    replace h : (oB (s.new (.cells ⟨intCells (x :: r), e, true, 0, false⟩)) fun p => some (AV.sl p.1 0 (lenL (x :: r)) (.op 1), p.2)) = some p := h
    (have ⟨q, h1, hNew⟩ := oB_of h; replace h := hNew; clear hNew)
    cases h
    obtain ⟨nb, s'⟩ := q
    obtain ⟨ht, hnb, hs'⟩ := new_of h1
    obtain ⟨hlen, hv | ⟨gb, cap, cur, rfl, hge, hgb, hc1, hc2, hc3, hc4⟩⟩ := ho
    · exact absurd (hn.1 hv.1) (by simp)
    · have hpre : ∀ (i : Nat) (u : AV), (intCells (x :: r))[i]? = some u → cur[i]? = some (conc (upd σ s.nx ⟨gb, cur.size⟩) u) := by
        intro i u hi
        rw [intCells_eq, List.getElem?_map, Option.map_eq_some_iff] at hi
        obtain ⟨n, hn1, rfl⟩ := hi
        have h2 : ((x :: r).map encZ)[i]? = some (encZ n) := by rw [List.getElem?_map, hn1]; rfl
        rw [← hc4, List.getElem?_take] at h2
        split at h2
        · rw [Array.getElem?_toList] at h2
          rw [h2]; simp [conc, encZ]
        · cases h2
      have hlen' : (intCells (x :: r)).length = (x :: r).length := by rw [intCells_eq, List.length_map]
      have hgood := g.place hb (n := cur.size) h1 hge hgb ⟨rfl, rfl, by simp only; rw [hlen']; omega, (fun h => by cases h), hpre, by
        rw [intCells_eq, onL_iff]; intro u hu; obtain ⟨n, _, rfl⟩ := List.mem_map.1 hu; simp [On], (fun i _ _ h => by simp at h), fun _ => .inl rfl⟩
      refine ⟨_, _, ?_, hgood, ext_upd g.fresh, by simp only [On, hnb]; exact .inr rfl⟩
      simp only [conc, capOf, hnb, upd_same, lenL_eq, hc3, Nat.mul_one, Nat.sub_zero, Nat.div_one]
theorem sortedA_of {K : Ids} (hK : KeysLaw K) {args : List AV} {l : List Int} {p : AV × St} (h : keysOfA K.its s args = some l) (hp : rowOf s K.intT (sortI l) = some p) (g : Good B Fm σ D s w) :
    CallsIn Fence.wide 0 PP K.sorted (concL σ args).toArray w (Ret B Fm σ D p) := by
  obtain ⟨⟨f, hf, Bm, ha, hc⟩, hs⟩ := keysOfA_of h g
  rw [ha]
  refine (hK.sorted f hf w Bm l hc).mono fun e w' ⟨v, h1, h2, h3, h4⟩ => ?_
  subst h1
  rw [hs] at h2
  have hl : l.length = (sortI l).length := (sortI_perm l).length_eq.symm
  rw [hl] at h2
  refine rowOf_of hp g h4 h2 (h3.trans ⟨fun e => by rw [e]; rfl, fun e => ?_⟩)
  have := hl
  rw [e] at this
  exact List.length_eq_zero_iff.1 this
theorem atMost1_of {l r : List Int} (h : atMost1 l = some r) : r = l ∧ l.length ≤ 1 := by
  cases l with
  | nil => cases h; simp
  | cons x l =>
    cases l with
    | nil => cases h; simp
    | cons y l => cases h
theorem collectA_of {K : Ids} (hK : KeysLaw K) {args : List AV} {l r : List Int} {p : AV × St} (h : keysOfA K.its s args = some l) (h1 : atMost1 l = some r) (hp : rowOf s K.intT r = some p) (g : Good B Fm σ D s w) :
    CallsIn Fence.wide 0 PP K.collect (concL σ args).toArray w (Ret B Fm σ D p) := by
  obtain ⟨⟨f, hf, Bm, ha, hc⟩, _⟩ := keysOfA_of h g
  obtain ⟨rfl, hl⟩ := atMost1_of h1
  rw [ha]
  refine (hK.collect f hf w Bm r hc hl).mono fun e w' ⟨v, h1, h2, h3, h4⟩ => ?_
  subst h1
  exact rowOf_of hp g h4 h2 h3
end
end Go.Ev
