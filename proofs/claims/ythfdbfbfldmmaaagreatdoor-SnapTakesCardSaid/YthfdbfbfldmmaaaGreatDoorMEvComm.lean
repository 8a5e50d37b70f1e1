/-
  Communication of one goroutine that does not wait: a send where there is room, a receive where something waits, a select of one case with a default.
-/
import Derived.Test.YthfdbfbfldmmaaaGreatDoorMEvCtl1
import Derived.Conc.LoneSelect
set_option linter.unusedVariables false
set_option linter.unusedSimpArgs false
set_option linter.unusedVariables false
set_option linter.unusedSimpArgs false
namespace Go.Ev
open Go.RowKit (Below)
open Go.Conc
section
variable {B : World} {Fm : Nat → Option Obj} {σ : Sig} {D : Nat → Prop} {s : St} {w : World}
theorem Good.chan (g : Good B Fm σ D s w) {b : Nat} {c : Nat × List AV × Nat × Nat} (h : s.chanAt b = some c) :
    alive s b ∧ D b ∧ OnL D c.2.1 ∧ w.heap[(σ b).b]? = some (.chan c.1 (c.2.1.map (conc σ)).toArray false c.2.2.1 c.2.2.2 false) := by
  have ha := chanAt_of h
  obtain ⟨hd, ob, h1, h2⟩ := g.heap b _ ha (by simp)
  cases ob <;> simp only [ORel] at h2
  obtain ⟨rfl, q1, q2, rfl, rfl, rfl, rfl⟩ := h2
  refine ⟨⟨_, ha, by simp⟩, hd, q2, ?_⟩
  rw [h1, ← q1]
theorem Good.setChan (g : Good B Fm σ D s w) {b : Nat} {c : Nat × List AV × Nat × Nat} (h : s.chanAt b = some c) {buf : List AV} {x y : Nat} (ho : OnL D buf) :
    Good B Fm σ D (s.put b (.chan c.1 buf x y)) (w.setChan (σ b).b c.1 (buf.map (conc σ)).toArray false x y false) := by
  obtain ⟨ha, hd, _, hw⟩ := g.chan h
  refine g.put ha (ob := .chan c.1 (buf.map (conc σ)).toArray false x y false) ⟨rfl, by simp, ho, rfl, rfl, rfl, rfl⟩ rfl rfl rfl (by simp [World.setChan]) ?_ (fun i hi => Array.getElem?_setIfInBounds_ne (Ne.symm hi))
  have := (Array.getElem?_eq_some_iff.1 hw).1
  simp [World.setChan, this]
theorem onL_snoc {l : List AV} {v : AV} (h : OnL D l) (hv : On D v) : OnL D (appL l [v]) := by
  rw [appL_eq, onL_iff]
  intro u hu
  rcases List.mem_append.1 hu with hu | hu
  · exact (onL_iff _ _).1 h u hu
  · simp at hu; subst hu; exact hv
theorem take_all {α : Type} (l : List α) (n : Nat) (h : n = l.length) : l.take n = l := by subst h; exact List.take_length
theorem zeroA_runs {e : TypeId} {z : AV} (h : zeroA e = some z) : (zeroValue e).run PP w = .ok (conc σ z) w := zeroA_run h σ w
theorem comm_applies {b : Frame} {k : List Item} {cs : List Frame} {a : Act} {ops : Array Oper} {i : Nat} {rest : List Nat} {o : Oper} (ho : ops[i]? = some o) (hw : Region.wanted o (yielded ops a.tmps) = true)
    (hd : ∀ c, o.op ≠ .defer c) {cases : Array CommCase} {bl : Bool} {sh : CommShape} (hr : (execOp a.eval o).run PP w = .ok (.comm cases bl sh) w) :
    ∃ es, stepG PP true (Conc.G (b.atR a (.inRegion ops (i :: rest) :: k)) cs) w = .comm (Conc.G (b.atR a (.inRegion ops (i :: rest) :: k)) cs) cases bl sh w es := by
  have hg := stepGR_op (P := PP) (b := b) (k := k) (cs := cs) (w := w) (rest := rest) ho hw
  rw [Oper.semAt_eq _ _ _ hd] at hg
  have hg' : stepG PP true (Conc.G (b.atR a (.inRegion ops (i :: rest) :: k)) cs) w = stepG.apply PP true (b.atR a (.inRegion ops (i :: rest) :: k)) cs none (execOp a.eval o) w := hg
  rw [hg']
  simp only [stepG.apply, Sem.runT_eq, hr, if_true]
  exact ⟨_, rfl⟩
theorem commA_of {n : Nat} {tm : T AV} {a : Act} {o : Oper} {p : AV × St} (h : commA s tm o.op = some p) (g : Good B Fm σ D s w) (ht : Tm σ D n tm a.tmps)
    {b : Frame} {k : List Item} {cs : List Frame} {ops : Array Oper} {i : Nat} {rest : List Nat} (ho : ops[i]? = some o) (hw : Region.wanted o (yielded ops a.tmps) = true) :
    ∃ w', step PP (lone (b.atR a (.inRegion ops (i :: rest) :: k)) cs w) = .next (lone (b.atR (a.put o.dst (conc σ p.1)) (.inRegion ops rest :: k)) cs w') ∧ Good B Fm σ D p.2 w' ∧ On D p.1 := by
  have hfin : ∀ v, (b.atR a (.inRegion ops (i :: rest) :: k)).finish v = b.atR (a.put o.dst v) (.inRegion ops rest :: k) := by
    intro v; rw [Frame.finish_atR, ho]; rfl
  have app := fun {cases : Array CommCase} {bl : Bool} {sh : CommShape} (hd : ∀ c, o.op ≠ .defer c) (hr : (execOp a.eval o).run PP w = .ok (.comm cases bl sh) w) =>
    comm_applies (b := b) (k := k) (cs := cs) (rest := rest) ho hw hd hr
  obtain ⟨dst, op, ty, pos, after, guard⟩ := o
  simp only at h
  unfold commA at h
  split at h
  · rename_i c x
    (have ⟨vc, h1, hNew⟩ := oB_of h; replace h := hNew; clear hNew)
    (have ⟨v, h2, hNew⟩ := oB_of h; replace h := hNew; clear hNew)
    (have ⟨r, h3, hNew⟩ := oB_of h; replace h := hNew; clear hNew)
    (have ⟨s', h4, hNew⟩ := oB_of h; replace h := hNew; clear hNew)
    cases h
    obtain ⟨e1, oc⟩ := ev_of ht h1
    obtain ⟨e2, o2⟩ := ev_of ht h2
    subst h4
    cases vc <;> first | (cases h3; done) | skip
    rename_i bb
    replace h3 : (oB (s.chanAt bb) fun c => some (ifB (Nat.blt (lenL c.2.1) c.1) (some (s.put bb (.chan c.1 (appL c.2.1 [v]) (c.2.2.1 + 1) c.2.2.2))) none)) = some (some s') := h3
    (have ⟨c', h5, hNew⟩ := oB_of h3; replace h3 := hNew; clear hNew)
    cases hb : Nat.blt (lenL c'.2.1) c'.1 with
    | false => rw [hb] at h3; cases h3
    | true =>
      rw [hb, ifB_true] at h3
      cases h3
      obtain ⟨q1, q2, q3, q4⟩ := g.chan h5
      have hlt : c'.2.1.length < c'.1 := by simpa [nblt, lenL_eq] using hb
      obtain ⟨es, he⟩ := app (cases := #[scase (σ bb).b (conc σ v) (.tuple #[])]) (bl := true) (sh := .send) (by simp) (by simp [execOp, e1, e2, conc, scase])
      have st := step_lone_send_room he q4 (by simpa using hlt)
      rw [hfin] at st
      refine ⟨_, st.trans ?_, g.setChan h5 (buf := appL c'.2.1 [v]) (onL_snoc q3 o2), by simp [undefA, On, OnL]⟩
      rw [appL_eq]
      simp [undefA, conc, concL, undef]
      rfl
  · rename_i t c ok
    (have ⟨e, h0, hNew⟩ := oB_of h; replace h := hNew; clear hNew)
    (have ⟨z, hz, hNew⟩ := oB_of h; replace h := hNew; clear hNew)
    (have ⟨vc, h1, hNew⟩ := oB_of h; replace h := hNew; clear hNew)
    (have ⟨r, h3, hNew⟩ := oB_of h; replace h := hNew; clear hNew)
    (have ⟨q, h4, hNew⟩ := oB_of h; replace h := hNew; clear hNew)
    cases h
    subst h4
    obtain ⟨e1, oc⟩ := ev_of ht h1
    cases vc <;> first | (cases h3; done) | skip
    rename_i bb
    replace h3 : (oB (s.chanAt bb) fun c => some (listC c.2.1 none fun v rest => some (v, s.put bb (.chan c.1 rest c.2.2.1 (c.2.2.2 + 1))))) = some (some q) := h3
    (have ⟨c', h5, hNew⟩ := oB_of h3; replace h3 := hNew; clear hNew)
    obtain ⟨q1, q2, q3, q4⟩ := g.chan h5
    obtain ⟨d, hu⟩ := uChan_of h0
    cases hl : c'.2.1 with
    | nil => rw [hl] at h3; cases h3
    | cons v tl =>
      rw [hl] at h3 q3 q4
      cases h3
      simp only [OnL] at q3
      obtain ⟨es, he⟩ := app (cases := #[rcase (σ bb).b (conc σ z)]) (bl := true) (sh := .recv ok) (by simp) (by
        simp only [execOp, Sem.run_bind, run_underlying hu, Result.andThen_ok, zeroA_runs (σ := σ) hz, Sem.run_pure, e1, conc, rcase])
      have st := step_lone_recv_buf ok he q4 (by simp)
      rw [hfin] at st
      refine ⟨_, st.trans ?_, g.setChan h5 (buf := tl) q3.2, ?_⟩
      · cases ok <;> (simp [got, conc, concL]; rw [take_all _ _ (by simp)]; rfl)
      · cases ok
        · exact q3.1
        · simp [On, OnL, q3.1]
  · rename_i css
    cases hcs : css.toList with
    | nil => rw [hcs] at h; cases h
    | cons c rest' =>
      cases rest' with
      | cons _ _ => rw [hcs] at h; cases h
      | nil =>
        have hc : css = #[c] := by apply Array.ext'; rw [hcs]
        subst hc
        replace h : selA s tm c = some p := h
        obtain ⟨cch, csend, celem⟩ := c
        unfold selA at h
        (have ⟨z, hz, hNew⟩ := oB_of h; replace h := hNew; clear hNew)
        (have ⟨vc, h1, hNew⟩ := oB_of h; replace h := hNew; clear hNew)
        simp only at hz h1
        obtain ⟨e1, oc⟩ := ev_of ht h1
        cases csend with
        | some x =>
          replace h : (oB (ev x tm) fun v => oB (trySend s v vc) fun r => some (sendSel s r)) = some p := h
          (have ⟨v, h2, hNew⟩ := oB_of h; replace h := hNew; clear hNew)
          (have ⟨r, h3, hNew⟩ := oB_of h; replace h := hNew; clear hNew)
          cases h
          obtain ⟨e2, o2⟩ := ev_of ht h2
          cases vc <;> first | (cases h3; done) | skip
          · cases h3
            obtain ⟨es, he⟩ := app (cases := #[scaseNil (conc σ v) (conc σ z)]) (bl := false) (sh := .select) (by simp) (by
              simp [execOp, e1, e2, conc, scaseNil, zeroA_runs (σ := σ) hz])
            have st := step_lone_select_send_nil he
            rw [hfin] at st
            exact ⟨_, st, g, by simp [sendSel, On, OnL]⟩
          · rename_i bb
            replace h3 : (oB (s.chanAt bb) fun c => some (ifB (Nat.blt (lenL c.2.1) c.1) (some (s.put bb (.chan c.1 (appL c.2.1 [v]) (c.2.2.1 + 1) c.2.2.2))) none)) = some r := h3
            (have ⟨c', h5, hNew⟩ := oB_of h3; replace h3 := hNew; clear hNew)
            cases h3
            obtain ⟨q1, q2, q3, q4⟩ := g.chan h5
            obtain ⟨es, he⟩ := app (cases := #[scase (σ bb).b (conc σ v) (conc σ z)]) (bl := false) (sh := .select) (by simp) (by
              simp [execOp, e1, e2, conc, scase, zeroA_runs (σ := σ) hz])
            cases hb : Nat.blt (lenL c'.2.1) c'.1 with
            | true =>
              have hlt : c'.2.1.length < c'.1 := by simpa [nblt, lenL_eq] using hb
              have st := step_lone_select_send_room he q4 (by simpa using hlt)
              rw [hfin] at st
              refine ⟨_, st.trans ?_, g.setChan h5 (buf := appL c'.2.1 [v]) (onL_snoc q3 o2), by simp [sendSel, On, OnL]⟩
              rw [appL_eq]
              simp [sendSel, conc, concL]
              rfl
            | false =>
              have hlt : ¬ c'.2.1.length < c'.1 := by simpa [nblt, lenL_eq] using hb
              have st := step_lone_select_send_full he q4 (by simpa using hlt)
              rw [hfin] at st
              exact ⟨_, st, g, by simp [sendSel, On, OnL]⟩
        | none =>
          replace h : (oB (tryRecv s vc) fun r => some (recvSel s z r)) = some p := h
          (have ⟨r, h3, hNew⟩ := oB_of h; replace h := hNew; clear hNew)
          cases h
          obtain ⟨_, _, _, oz⟩ := zeroA_of (σ := σ) (D := D) hz
          cases vc <;> first | (cases h3; done) | skip
          · cases h3
            obtain ⟨es, he⟩ := app (cases := #[rcaseNil (conc σ z)]) (bl := false) (sh := .select) (by simp) (by
              simp [execOp, e1, conc, rcaseNil, zeroA_runs (σ := σ) hz])
            have st := step_lone_select_recv_nil he
            rw [hfin] at st
            exact ⟨_, st, g, by simp [recvSel, On, OnL, oz]⟩
          · rename_i bb
            replace h3 : (oB (s.chanAt bb) fun c => some (listC c.2.1 none fun v rest => some (v, s.put bb (.chan c.1 rest c.2.2.1 (c.2.2.2 + 1))))) = some r := h3
            (have ⟨c', h5, hNew⟩ := oB_of h3; replace h3 := hNew; clear hNew)
            cases h3
            obtain ⟨q1, q2, q3, q4⟩ := g.chan h5
            obtain ⟨es, he⟩ := app (cases := #[rcase (σ bb).b (conc σ z)]) (bl := false) (sh := .select) (by simp) (by
              simp [execOp, e1, conc, rcase, zeroA_runs (σ := σ) hz])
            cases hl : c'.2.1 with
            | nil =>
              rw [hl] at q4
              have st := step_lone_select_default he q4
              rw [hfin] at st
              exact ⟨_, st, g, by simp [recvSel, listC, On, OnL, oz]⟩
            | cons v tl =>
              rw [hl] at q3 q4
              simp only [OnL] at q3
              have st := step_lone_select_recv_buf he q4 (by simp)
              rw [hfin] at st
              refine ⟨_, st.trans ?_, g.setChan h5 (buf := tl) q3.2, by simp [recvSel, On, OnL, q3.1]⟩
              simp [recvSel, conc, concL]
              rw [take_all _ _ (by simp)]
              rfl
  · cases h
theorem opsC_of (hF : Facts) {n : Nat} {r : Option Nat} {ops : Array Oper} {df : List Dfr} {b : Frame} {k : List Item} {cs : List Frame} (hro : b.roundOf = (fen σ r).round) (hroom : (fen σ r).room (cs.length + 1 + 0)) :
    ∀ (l : List Oper) (j : Nat) (_ : ∀ i, l[i]? = ops[j + i]?) {s : St} {w : World} {σ' : Sig} {D' : Nat → Prop} {tm : T AV} {a : Act} {p : T AV × St}, opsC n ops.toList l tm s = some p → Good B Fm σ' D' s w → Ext σ D σ' D' → Fr σ' D' n tm df a →
      ∃ a' w', CPost B Fm σ D n ⟨.normal, p.1, df, p.2⟩ .normal a' w' ∧ StepsIn (Machine.fenced PP (fen σ r)) PP (lone (b.atR a (.inRegion ops (List.range' j l.length) :: k)) cs w) (lone (b.atR a' k) cs w')
  | [], j, _, s, w, σ', D', tm, a, p, h, g, x, ht => by
    cases h
    exact ⟨a, w, ⟨rfl, σ', D', g, x, ht⟩, .one (fenced_calm (n := 0) trivial hroom rfl) stepR_region_end⟩
  | o :: l, j, hl, s, w, σ', D', tm, a, p, h, g, x, ht => by
    have ho : ops[j]? = some o := by have := hl 0; simpa using this.symm
    have hl' : ∀ i, l[i]? = ops[j + 1 + i]? := fun i => by have := hl (i + 1); rw [List.getElem?_cons_succ] at this; rw [this]; congr 1; omega
    have hf : (lone (b.atR a (.inRegion ops (List.range' j (o :: l).length) :: k)) cs w).fenced PP (fen σ r) := by
      rw [List.length_cons, List.range'_succ]
      exact fenced_oper (n := 0) trivial hroom ho (fun f _ => trivial)
    replace h : ifB (wantedA ops.toList tm o.guard) (oB (ifB (isComm o.op) (commA s tm o.op) (oB (opA s tm o) valOnly)) fun p => oB (putA n tm o.dst p.1) fun tm' => opsC n ops.toList l tm' p.2)
      (oB (putA n tm o.dst undefA) fun tm' => opsC n ops.toList l tm' s) = some p := h
    rw [List.length_cons, List.range'_succ] at hf ⊢
    have hwt := wantedA_of ht.tm ops o
    cases hw : wantedA ops.toList tm o.guard with
    | false =>
      rw [hw, ifB_false] at h
      (have ⟨tm', h1, hNew⟩ := oB_of h; replace h := hNew; clear hNew)
      have ht' := ht.put (v := undefA) h1 (by simp [undefA, On, OnL])
      obtain ⟨a', w', k1, k2⟩ := opsC_of hF hro hroom l (j + 1) hl' h g x ht'
      refine ⟨a', w', k1, .head hf ?_ k2⟩
      have hs := stepR_op_skip (P := PP) (b := b) (a := a) (k := k) (cs := cs) (w := w) (ops := ops) (i := j) (rest := List.range' (j + 1) l.length) (by
        rw [ho]
        simp only [Option.map_some, Option.getD_some]
        rw [hwt, hw])
      simp only [ho, Option.bind_some] at hs
      rw [hs]
      simp [undefA, conc, concL, undef]
    | true =>
      rw [hw, ifB_true] at h
      rw [hw] at hwt
      (have ⟨q, h1, hNew⟩ := oB_of h; replace h := hNew; clear hNew)
      (have ⟨tm', h2, hNew⟩ := oB_of h; replace h := hNew; clear hNew)
      cases hc : isComm o.op with
      | true =>
        rw [hc, ifB_true] at h1
        obtain ⟨w1, s1, g1, o1⟩ := commA_of h1 g ht.tm (b := b) (k := k) (cs := cs) (rest := List.range' (j + 1) l.length) ho hwt
        obtain ⟨a', w', k1, k2⟩ := opsC_of hF hro hroom l (j + 1) hl' h g1 x (ht.put h2 o1)
        exact ⟨a', w', k1, .head hf s1 k2⟩
      | false =>
        rw [hc, ifB_false] at h1
        (have ⟨an, h3, hNew⟩ := oB_of h1; replace h1 := hNew; clear hNew)
        cases an with
        | enter f args s' => cases h1
        | round bb args s' => cases h1
        | val v s' =>
          cases h1
          obtain ⟨σ2, D2, w1, q1, q2, q3, q4⟩ := opA_of hF g (EvOk.of_tm ht.tm _) h3
          have hfin : ∀ v, (b.atR a (.inRegion ops (j :: List.range' (j + 1) l.length) :: k)).finish v = b.atR (a.put o.dst v) (.inRegion ops (List.range' (j + 1) l.length) :: k) := by
            intro v; rw [Frame.finish_atR, ho]; rfl
          have hg := stepGR_op (P := PP) (b := b) (k := k) (cs := cs) (w := w) (rest := List.range' (j + 1) l.length) ho hwt
          rw [Oper.semAt_eq _ _ _ (not_defer h3)] at hg
          have hstep : step PP (lone (b.atR a (.inRegion ops (j :: List.range' (j + 1) l.length) :: k)) cs w) = .next (lone (b.atR (a.put o.dst (conc σ2 v)) (.inRegion ops (List.range' (j + 1) l.length) :: k)) cs w1) := by
            refine step_lone_go ?_
            rw [hg, ← hfin]
            rcases q1 with q1 | ⟨rfl, q1⟩
            · simp [stepG.apply, q1]
            · simp [stepG.apply, q1, undefA, conc, concL, undef]
          obtain ⟨a', w', k1, k2⟩ := opsC_of hF hro hroom l (j + 1) hl' h q2 (x.trans q3) ((ht.ext q3).put h2 q4)
          exact ⟨a', w', k1, .head hf hstep k2⟩
theorem comm_region (hF : Facts) {n : Nat} {r : Option Nat} {id : Nat} {ops : Array Oper} {tm : T AV} {df : List Dfr} {a : Act} {p : T AV × St} (h : opsC n ops.toList ops.toList tm s = some p) (g : Good B Fm σ D s w) (ht : Fr σ D n tm df a) :
    (Code.region id ops false).wpIn (fen σ r) 0 PP (CPost B Fm σ D n ⟨.normal, p.1, df, p.2⟩) a w := by
  intro b k cs hro hb hr
  obtain ⟨a', w', k1, k2⟩ := opsC_of hF (σ := σ) (D := D) (r := r) hro hr ops.toList 0 (fun i => by simp) h g (Ext.refl _ _) ht
  refine ⟨.normal, a', w', k1, ?_⟩
  rw [← List.range_eq_range', show ops.toList.length = ops.size by simp] at k2
  exact .head (fenced_calm (n := 0) hb hr rfl) stepR_region k2
end
end Go.Ev
