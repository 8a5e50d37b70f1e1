/-
  Control: code, rounds, calls.
-/
import Derived.Test.YtdopajkecfomdaaGreatDoorEvCtl2
import Derived.Test.YtdopajkecfomdaaGreatDoorEvComm
import Derived.RangeFuncLeaves
namespace Go.Ev
open Go.RowKit (Below)

section
variable {B : World} {Fm : Nat → Option Obj} {σ : Sig} {D : Nat → Prop} {s : St} {w : World}

theorem seqK_of {k : Nat} {F : Fns} (hS : Sound k F) {n : Nat} {r : Option Nat} {b : Code} {o1 o : Out} (h : seqK F n r b o1 = some o) (hr : ∀ l, r = some l → D l) {e : Exit} {a' : Act} {w' : World} (hc : CPost B Fm σ D n o1 e a' w') :
    Exit.then (b.wpIn (fen σ r) 0 PP (CPost B Fm σ D n o)) (CPost B Fm σ D n o) e a' w' := by
  obtain ⟨rfl, σ', D', h1, h2, h3⟩ := hc
  unfold seqK at h
  cases hx : o1.x with
  | normal =>
    rw [hx] at h
    have := hS.code h h1 h3 (fun l hl => h2.sub l (hr l hl))
    rw [fen_ext h2 hr] at this
    exact wpIn_mono this fun e a w hc => hc.weaken h2
  | exit id =>
    rw [hx] at h
    cases h
    exact ⟨by rw [hx], σ', D', h1, h2, h3⟩
  | ret =>
    rw [hx] at h
    cases h
    exact ⟨by rw [hx], σ', D', h1, h2, h3⟩

theorem loop_step {k : Nat} {F : Fns} (hS : Sound k F) {n : Nat} {r : Option Nat} {c : Code} {tm : T AV} {df : List Dfr} {a : Act} {o : Out}
    (h : codeA F n r (.loop c) tm df s = some o) (g : Good B Fm σ D s w) (ht : Fr σ D n tm df a) (hr : ∀ l, r = some l → D l) : Code.roundsIn (fen σ r) 0 PP c (CPost B Fm σ D n o) (k + 1) a w := by
  replace h : oB (F.code n r c tm df s) (seqK F n r (.loop c)) = some o := h
  (have ⟨o1, h1, hNew⟩ := oB_of h; replace h := hNew; clear hNew)
  refine wpIn_mono (hS.code h1 g ht hr) fun e a' w' hc => ?_
  obtain ⟨rfl, σ', D', k1, k2, k3⟩ := hc
  unfold seqK at h
  cases hx : o1.x with
  | normal =>
    rw [hx] at h
    have := hS.loop h k1 k3 (fun l hl => k2.sub l (hr l hl))
    rw [fen_ext k2 hr] at this
    have mono : ∀ m a w, Code.roundsIn (fen σ r) 0 PP c (CPost B Fm σ' D' n o) m a w → Code.roundsIn (fen σ r) 0 PP c (CPost B Fm σ D n o) m a w := by
      intro m
      induction m with
      | zero => intro a w h; exact h
      | succ m ih =>
        intro a w h
        refine wpIn_mono h fun e a w hc => ?_
        cases e <;> first | exact ih _ _ hc | exact CPost.weaken k2 hc
    exact mono _ _ _ this
  | exit id =>
    rw [hx] at h
    cases h
    exact ⟨by rw [hx], σ', D', k1, k2, k3⟩
  | ret =>
    rw [hx] at h
    cases h
    exact ⟨by rw [hx], σ', D', k1, k2, k3⟩

/-- A call is put off. -/
theorem defer_region {n : Nat} {r : Option Nat} {id : Nat} {ops : Array Oper} {tm : T AV} {df : List Dfr} {a : Act} {o : Out} (h : deferA n r ops.toList tm df s = some o) (g : Good B Fm σ D s w) (ht : Fr σ D n tm df a) :
    (Code.region id ops false).wpIn (fen σ r) 0 PP (CPost B Fm σ D n o) a w := by
  unfold deferA at h
  split at h
  · cases h
  split at h
  · rename_i x d hops
    split at h
    · rename_i y hop
      split at h
      · cases h
      rename_i hg1
      split at h
      · rename_i c hop2
        split at h
        · cases h
        rename_i hg2
        split at h
        · cases h
        rename_i hdst
        (have ⟨v, h1, hNew⟩ := oB_of h; replace h := hNew; clear hNew)
        (have ⟨tm', h2, hNew⟩ := oB_of h; replace h := hNew; clear hNew)
        (have ⟨args, h3, hNew⟩ := oB_of h; replace h := hNew; clear hNew)
        split at h
        · rename_i f hcal
          (have ⟨gf, h4, hNew⟩ := oB_of h; replace h := hNew; clear hNew)
          split at h
          · rename_i hf first
            cases h
            refine wpIn_region ?_
            have e := wpOpsIn_eq_wpListIn (F := fen σ none) (n := 0) (P := PP) (ops := ops) (Q := CPost B Fm σ D n ⟨.normal, tm', .call hf (appL first args) :: df, s⟩) ops.toList 0 (fun j => by simp)
            rw [List.range_eq_range', show ops.size = ops.toList.length by simp, e, hops]
            obtain ⟨e1, o1⟩ := ev_of ht.tm h1
            have hfr := ht.put h2 o1
            obtain ⟨e3, o3⟩ := evs_ok (EvOk.of_tm hfr.tm _) h3
            obtain ⟨e4, o4⟩ := ev_of hfr.tm h4
            simp only [On, OnL, and_true] at o4
            have hargs : c.args.map (a.put x.dst (conc σ v)).eval = (concL σ args).toArray := by
              apply Array.ext'
              simp [e3]
            unfold wpListIn
            rw [if_pos (by unfold Region.wanted; rw [hg1])]
            refine ⟨fun f _ => trivial, ?_⟩
            rw [show (fen σ none).round = none from rfl, Oper.semAt_none]
            simp only [execOp, hop, Sem.run_pure, Oper.uponIn_value, e1]
            unfold wpListIn
            rw [if_pos (by unfold Region.wanted; rw [hg2])]
            refine ⟨fun f _ => trivial, ?_⟩
            rw [show (fen σ none).round = none from rfl, Oper.semAt_none]
            simp only [execOp, hop2, resolve, hcal, e4, conc, concL, Deferred.ofValue, hargs, Sem.run_bind, Sem.run_pure, Result.andThen_ok, Oper.uponIn_defer, hdst]
            unfold wpListIn
            refine ⟨rfl, σ, D, g, Ext.refl _ _, hfr.tm, ?_, ?_⟩
            · simp only [List.map_cons, mrk, appL_eq, concL_append]
              rw [hfr.df]
              simp [Act.put]
            · intro q hq
              rcases List.mem_cons.1 hq with rfl | hq
              · simp only [OnDf, appL_eq, onL_append]
                exact ⟨o4, o3⟩
              · exact hfr.on q hq
          · cases h
        · cases h
      · cases h
    · cases h
  · cases h

theorem code_step (hF : Facts) (hDr : DrawOk) {k : Nat} {F : Fns} (hS : Sound k F) {n : Nat} {r : Option Nat} {c : Code} {tm : T AV} {df : List Dfr} {a : Act} {o : Out}
    (h : codeA F n r c tm df s = some o) (g : Good B Fm σ D s w) (ht : Fr σ D n tm df a) (hr : ∀ l, r = some l → D l) : c.wpIn (fen σ r) 0 PP (CPost B Fm σ D n o) a w := by
  have here : ∀ x, CPost B Fm σ D n ⟨x, tm, df, s⟩ (exitOf x) a w := fun x => ⟨rfl, σ, D, g, Ext.refl _ _, ht⟩
  cases c with
  | skip => cases h; exact wpIn_skip (here .normal)
  | label l => cases h; exact wpIn_label (here .normal)
  | region id ops draw =>
    cases draw with
    | false =>
      replace h : ifB (lastDefer ops.toList) (deferA n r ops.toList tm df s) (ifB (noComm ops.toList) (oB (F.ops n ops.toList ops.toList tm s) fun p => some ⟨.normal, p.1, df, p.2⟩) (oB (opsC n ops.toList ops.toList tm s) fun p => some ⟨.normal, p.1, df, p.2⟩)) = some o := h
      cases hld : lastDefer ops.toList with
      | true =>
        rw [hld, ifB_true] at h
        exact defer_region h g ht
      | false =>
      rw [hld, ifB_false] at h
      cases hnc : noComm ops.toList with
      | false =>
        rw [hnc, ifB_false] at h
        (have ⟨p, h1, hNew⟩ := oB_of h; replace h := hNew; clear hNew)
        cases h
        exact comm_region hF h1 g ht
      | true =>
      rw [hnc, ifB_true] at h
      (have ⟨p, h1, hNew⟩ := oB_of h; replace h := hNew; clear hNew)
      cases h
      refine wpIn_region ?_
      have e := wpOpsIn_eq_wpListIn (F := fen σ r) (n := 0) (P := PP) (ops := ops) (Q := CPost B Fm σ D n ⟨.normal, p.1, df, p.2⟩) ops.toList 0 (fun j => by simp)
      rw [List.range_eq_range', show ops.size = ops.toList.length by simp, e]
      exact hS.ops h1 g ht hr (fun a' w' hc => hc)
    | true =>
      replace h : gd (regionOk ops.toList) (oB (F.draw n ops.toList (orderOf ops.toList) ⟨tm, s, [], [], []⟩) fun d => gd (Nat.ble d.s.nx top) (some ⟨.normal, d.tm, df, publish d.pds d.s⟩)) = some o := h
      (have ⟨h0, hNew⟩ := gd_of h; replace h := hNew; clear hNew)
      (have ⟨d, h1, hNew⟩ := oB_of h; replace h := hNew; clear hNew)
      (have ⟨h2, hNew⟩ := gd_of h; replace h := hNew; clear hNew)
      cases h
      obtain ⟨ts, htr⟩ := hS.draw h1
      exact hDr h0 htr (by simpa [nble] using h2) g ht hr
  | seq x y =>
    replace h : oB (F.code n r x tm df s) (seqK F n r y) = some o := h
    (have ⟨o1, h1, hNew⟩ := oB_of h; replace h := hNew; clear hNew)
    exact wpIn_seq (wpIn_mono (hS.code h1 g ht hr) fun e a' w' hc => seqK_of hS h hr hc)
  | cond c x y =>
    replace h : oB (ev c tm) (condK F n r x y tm df s) = some o := h
    (have ⟨v, h1, hNew⟩ := oB_of h; replace h := hNew; clear hNew)
    (have ⟨b, h2, hNew⟩ := oB_of h; replace h := hNew; clear hNew)
    obtain ⟨e1, _⟩ := ev_of ht.tm h1
    rw [isBool_of h2] at e1
    refine wpIn_cond (t := b) (by rw [e1]; simp [conc]) ?_
    cases b with
    | true => rw [ifB_true] at h; exact hS.code h g ht hr
    | false => rw [ifB_false] at h; exact hS.code h g ht hr
  | block id body =>
    replace h : (oB (F.code n r body tm df s) fun o => some (blockK id o)) = some o := h
    (have ⟨o1, h1, hNew⟩ := oB_of h; replace h := hNew; clear hNew)
    cases h
    refine wpIn_block (wpIn_mono (hS.code h1 g ht hr) fun e a' w' hc => ?_)
    obtain ⟨rfl, k⟩ := hc
    unfold blockK
    cases hx : o1.x with
    | normal => exact ⟨by rw [hx], k⟩
    | ret => exact ⟨by rw [hx], k⟩
    | exit id' =>
      simp only [exitOf, Exit.inBlock]
      rw [nbeq]
      by_cases hid : id' = id
      · simp only [hid, if_true, decide_true, ifB_true]
        exact ⟨rfl, k⟩
      · simp only [hid, if_false, decide_false, ifB_false]
        exact ⟨by rw [hx]; rfl, k⟩
  | loop body => exact wpIn_loop_rounds _ (loop_step hS h g ht hr)
  | exit id => cases h; exact wpIn_exit (here (.exit id))
  | ret => cases h; exact wpIn_ret (here .ret)
  | rangeFunc f params assign body => exact code_range hF hS h g ht hr
  | _ => cases h

theorem putParams_of {n : Nat} : ∀ {ps : List Tmp} {args : List AV} {tm tm' : T AV} {a : Act}, putParams n ps args tm = some tm' → Tm σ D n tm a.tmps → OnL D args →
    Tm σ D n tm' ((ps.zip (concL σ args)).foldl (fun tmps (t, v) => tmps.setIfInBounds t v) a.tmps)
  | [], args, tm, tm', a, h, ht, ho => by
    have : putParams n [] args tm = some tm := by cases args <;> rfl
    rw [this] at h; cases h
    simpa using ht
  | p :: ps, [], tm, tm', a, h, ht, ho => by
    cases h
    simpa [concL] using ht
  | p :: ps, x :: l, tm, tm', a, h, ht, ho => by
    replace h : oB (putA n tm (some p) x) (putParams n ps l) = some tm' := h
    (have ⟨t1, h1, hNew⟩ := oB_of h; replace h := hNew; clear hNew)
    simp only [OnL] at ho
    have := putParams_of (a := a.put (some p) (conc σ x)) h (ht.put h1 ho.1) ho.2
    simpa [concL, Act.put] using this

theorem roundEnd_of {b : Nat} {o : Out} {p : AV × St} {n : Nat} (h : roundEnd b o = some p) {e : Exit} {a' : Act} {w' : World} (hD : D b) (hc : CPost B Fm σ D n o e a' w') : roundPost PP (σ b).b (Ret B Fm σ D p) e a' w' := by
  obtain ⟨rfl, σ', D', k1, k2, k3⟩ := hc
  (have ⟨lp, hl, hNew⟩ := oB_of h; replace h := hNew; clear hNew)
  obtain ⟨_, _, L, hL, hrl⟩ := k1.loop hl
  obtain ⟨r1, r2, r3, r4, r5, r6, r7, r8⟩ := hrl
  split at h
  · have hb := k2.same b hD
    have fin : ∀ (st : LoopState) (jump : Option Code), st = (if jump.isNone then .ready else .done) → some (AV.bool jump.isNone, o.s.put b (.loop { lp with st := st, pend := jump })) = some p →
        ∃ v w'', (Instr.endRound (σ b).b jump).run PP w' = .ok v w'' ∧ Ret B Fm σ D p (.returned v) w'' := by
      intro st jump hst h
      cases h
      obtain ⟨u1, u2⟩ := k1.setLoop (lp' := { lp with st := st, pend := jump }) (L' := { L with state := (if jump.isNone then .ready else .done), pending := jump }) hl hL ⟨hst.symm, rfl, r3, r4, r5, r6, r7, r8⟩
      rw [hb] at hL u1 u2
      refine ⟨.bool jump.isNone, _, ?_, σ', D', by simp [conc], u2, k2, by simp [On]⟩
      simp only [Instr.endRound, Sem.run_bind, get_loop hL, Result.andThen_ok, u1, Sem.run_pure]
    split at h
    · rename_i hx
      rw [hx]
      exact fin .ready none rfl h
    · rename_i id hx
      rw [hx]
      exact fin .done (some (.exit id)) rfl h
    · rename_i hx
      rw [hx]
      exact fin .done (some .ret) rfl h
  · cases h

theorem round_step {k : Nat} {F : Fns} (hS : Sound k F) {b : Nat} {args : List AV} {p : AV × St} (h : roundF F b args s = some p) (g : Good B Fm σ D s w) (ho : OnL D args) (hD : D b) :
    ∃ fn tmps assign body, (Instr.yield (σ b).b (concL σ args).toArray).run PP w = .ok (.round (σ b).b fn tmps assign body) w ∧ RoundIn Fence.wide 0 PP (σ b).b fn tmps assign body w (Ret B Fm σ D p) := by
  (have ⟨lp, h1, hNew⟩ := oB_of h; replace h := hNew; clear hNew)
  (have ⟨h2, hNew⟩ := gd_of h; replace h := hNew; clear hNew)
  (have ⟨tm, h3, hNew⟩ := oB_of h; replace h := hNew; clear hNew)
  (have ⟨o1, h4, hNew⟩ := oB_of h; replace h := hNew; clear hNew)
  obtain ⟨_, _, L, hL, hrl⟩ := g.loop h1
  obtain ⟨r1, r2, r3, r4, r5, r6, r7, r8⟩ := hrl
  have hlen : args.length = lp.params.length := by simpa [nbeq, lenL_eq] using h2
  have hps : L.params.size = args.length := by rw [← Array.length_toList, r4, hlen]
  refine ⟨L.fn, (L.params.zip (concL σ args).toArray).foldl (fun tmps (t, v) => tmps.setIfInBounds t v) L.tmps, lp.assign, lp.body, ?_, ?_⟩
  · have : ¬ ((concL σ args).toArray.size ≠ L.params.size) := by simp [concL_length, hps]
    simp only [Instr.yield, Sem.run_bind, get_loop hL, Result.andThen_ok, this, if_false, Sem.run_pure, r5, r6]
  · refine roundIn_of_wpIn trivial ?_
    have htm := putParams_of (a := { tmps := L.tmps, defers := [] }) h3 r3 ho
    have hfr : Fr σ D lp.n tm [] { tmps := (L.params.zip (concL σ args).toArray).foldl (fun tmps (t, v) => tmps.setIfInBounds t v) L.tmps, defers := [] } := by
      refine ⟨?_, rfl, by simp⟩
      have e : (L.params.zip (concL σ args).toArray).foldl (fun tmps (t, v) => tmps.setIfInBounds t v) L.tmps = (lp.params.zip (concL σ args)).foldl (fun tmps (t, v) => tmps.setIfInBounds t v) L.tmps := by
        rw [← Array.foldl_toList, Array.toList_zip, r4]
      simp only [e]
      exact htm
    refine wpIn_mono (hS.code (r := some b) h4 g hfr (fun l hl => by cases hl; exact hD)) fun e a1 w1 hc => ?_
    obtain ⟨rfl, σ1, D1, k1, k2, k3⟩ := hc
    (have ⟨lp1, h5, hNew⟩ := oB_of h; replace h := hNew; clear hNew)
    obtain ⟨_, _, L1, hL1, hrl1⟩ := k1.loop h5
    obtain ⟨q1, q2, q3, q4, q5, q6, q7, q8⟩ := hrl1
    split at h
    · rename_i hst hx hdf
      (have ⟨o2, h6, hNew⟩ := oB_of h; replace h := hNew; clear hNew)
      rw [hx]
      have hb := k2.same b hD
      obtain ⟨u1, u2⟩ := k1.setLoop (lp' := { lp1 with st := .busy }) (L' := { L1 with state := .busy }) h5 hL1 ⟨rfl, q2, q3, q4, q5, q6, q7, q8⟩
      refine ⟨{ w1 with heap := w1.heap.setIfInBounds (σ1 b).b (.loop { L1 with state := .busy }) }, ?_, ?_⟩
      · rw [← hb]
        have hs : L1.state = .ready := by rw [q1, hst]
        simp only [Instr.beginRound, Sem.run_bind, get_loop hL1, Result.andThen_ok, u1, hs, Sem.run_pure]
      · rw [hdf] at k3
        have := hS.code (r := some b) h6 u2 k3 (fun l hl => by cases hl; exact k2.sub _ hD)
        have hfe : fen σ1 (some b) = Fence.wide.inRound (σ b).b := by simp only [fen, Option.map_some, hb]; rfl
        rw [hfe] at this
        refine wpIn_mono this fun e a2 w2 hc => ?_
        have hfin := roundEnd_of (σ := σ1) (D := D1) h (k2.sub _ hD) hc
        rw [hb] at hfin
        cases e <;> simp only [roundPost] at hfin ⊢ <;> first
          | exact hfin
          | (obtain ⟨v, w4, z1, z2⟩ := hfin; exact ⟨v, w4, z1, z2.weaken k2⟩)
    · cases h

end
end Go.Ev
