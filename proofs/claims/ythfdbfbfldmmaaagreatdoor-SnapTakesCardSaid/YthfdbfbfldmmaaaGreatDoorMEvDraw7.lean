/-
  Open regions: every order comes to the same.
-/
import Derived.Test.YthfdbfbfldmmaaaGreatDoorMEvDraw6
set_option linter.unusedVariables false
set_option linter.unusedSimpArgs false
set_option linter.unusedVariables false
set_option linter.unusedSimpArgs false
namespace Go.Ev
open Go.RowKit (Below)
section
variable {B : World} {Fm : Nat → Option Obj} {σ0 : Sig} {D0 : Nat → Prop} {n : Nat} {ops : Array Oper} {xs : List Stp} {d0 dE : Dr} {a0 : Act}
variable {listed : Array Bool} {c : Nat} {σ : Sig} {D : Nat → Prop} {F : Nat → Option Obj} {a : Act} {w : World}
theorem again_of {s : St} {tm : T AV} {o : Oper} {v : AV} (h : again s tm o v = true) : ∃ s', opA s tm o = some (.val v s') ∧ s'.nx = s.nx := by
  unfold again at h
  split at h
  · rename_i v' s' ho
    simp only [Bool.and_eq_true, nbeq, decide_eq_true_eq] at h
    have := eqAV_of _ _ _ h.2
    subst this
    exact ⟨s', ho, h.1⟩
  · cases h
theorem still_same {s s' : St} {tm : T AV} {o : Oper} {v : AV} (hq : still o.op = true) (h : opA s tm o = some (.val v s')) : s'.nx = s.nx := by
  unfold opA at h
  cases ho : o.op <;> rw [ho] at h hq <;> simp only [opD] at h <;> (try (exfalso; revert hq; simp [still]; done))
  case makeFunc f first captured =>
    cases f with
    | func f =>
      replace h : (oB (evs first.toList tm) fun a => oB (evs captured.toList tm) fun b => some (AN.val (.fn f a b) s)) = some (.val v s') := h
      (have ⟨a1, h1, hNew⟩ := oB_of h; replace h := hNew; clear hNew)
      (have ⟨a2, h2, hNew⟩ := oB_of h; replace h := hNew; clear hNew)
      cases h
      rfl
    | _ => cases h
  case call c =>
    unfold callA at h
    (have ⟨args, h1, hNew⟩ := oB_of h; replace h := hNew; clear hNew)
    cases hc : c.callee with
    | value f =>
      obtain ⟨callee, args', ats⟩ := c
      simp only at hc
      subst hc
      exact absurd hq (by simp [still])
    | invoke r m =>
      obtain ⟨callee, args', ats⟩ := c
      simp only at hc
      subst hc
      exact absurd hq (by simp [still])
    | builtin b =>
      simp only [hc] at h
      obtain ⟨callee, args', ats⟩ := c
      simp only at hc
      subst hc
      unfold builtinA at h
      split at h <;> (try (exfalso; revert hq; simp [still]; done))
      · (have ⟨a1, h1, hNew⟩ := oB_of h; replace h := hNew; clear hNew)
        cases h
        rfl
      · (have ⟨a1, h1, hNew⟩ := oB_of h; replace h := hNew; clear hNew)
        cases h
        rfl
      · cases h
  all_goals
    repeat (have ⟨_, _, hNew⟩ := oB_of h; replace h := hNew; clear hNew)
    cases h
    rfl
theorem first_eff {c p : Nat} (h : ¬ NoEff xs c p) : ∃ (q : Nat) (y : Stp), c ≤ q ∧ q < p ∧ xs[q]? = some y ∧ y.k.eff = true ∧ NoEff xs c q := by
  induction p with
  | zero => exact absurd (fun q x h1 h2 => absurd h2 (Nat.not_lt_zero q)) h
  | succ p ih =>
    by_cases hn : NoEff xs c p
    · have : ∃ y, xs[p]? = some y ∧ y.k.eff = true ∧ c ≤ p := by
        refine Classical.byContradiction fun hno => h fun q y h1 h2 h3 => ?_
        rcases Nat.lt_or_ge q p with k | k
        · exact hn q y h1 k h3
        · have : q = p := by omega
          subst this
          cases he : y.k.eff with
          | false => rfl
          | true => exact absurd ⟨y, h3, he, h1⟩ hno
      obtain ⟨y, h1, h2, h3⟩ := this
      exact ⟨p, y, h3, by omega, h1, h2, hn⟩
    · obtain ⟨q, y, h1, h2, h3⟩ := ih hn
      exact ⟨q, y, h1, by omega, h3⟩
theorem Inv.step (P : Pre D0 n ops xs d0 dE) (I : Inv B Fm σ0 D0 n ops xs d0 dE a0 listed c σ D F a w) {i : Nat} (hr : i ∈ Region.ready .any ops listed) {ρ : Option Nat} {Q : Exit → Act → World → Prop} :
    wpOpIn { Fence.wide with round := ρ } 0 PP ops Q i (fun a' w' => ∃ c' σ' D' F', Inv B Fm σ0 D0 n ops xs d0 dE a0 (listed.setIfInBounds i true) c' σ' D' F' a' w') a w := by
  obtain ⟨hl0, o, ho, _⟩ := mem_ready.1 hr
  have hio : i < ops.size := (Array.getElem?_eq_some_iff.1 ho).1
  have hi : i < listed.size := by rw [I.size]; exact hio
  have hl : listed.getD i false = false := by
    simp only [Array.getD_eq_getD_getElem?, Array.getElem?_eq_getElem hi] at hl0 ⊢
    exact hl0
  obtain ⟨p, x, hx, rfl⟩ := P.T.full i hio
  have hp : p < xs.length := (List.getElem?_eq_some_iff.1 hx).1
  have hm := P.T.mask_listed I.closed hx hr
  have hxo : o = x.t.o := by
    have := (P.T.item p x hx).1
    rw [Array.getElem?_toList, ho] at this
    exact Option.some.inj this
  subst hxo
  have hcp : c ≤ p := by
    rcases Nat.lt_or_ge p c with h | h
    · rw [I.done p x h hx] at hl; cases hl
    · exact h
  obtain ⟨e1, e2, e3, e4, e5⟩ := P.T.step p x hx
  have hev := I.evOk P hx hl hm
  unfold wpOpIn
  rw [ho]
  simp only
  rw [I.wanted P hx hl hm]
  have quietEnd : ∀ v, x.v = v → x.k.eff = false → (∀ ob, x.k ≠ .mk ob) → On (Upto xs dE D (p + 1)) v → ∃ c' σ' D' F', Inv B Fm σ0 D0 n ops xs d0 dE a0 (listed.setIfInBounds x.t.i true) c' σ' D' F' (a.put x.t.o.dst (conc σ v)) w := by
    intro v hv hk hnm hon
    subst hv
    exact ⟨c, σ, D, F, I.add_quiet P hx hl hi hm hk hnm hon⟩
  have hup : ∀ v, On (Upto xs dE D p) v → On (Upto xs dE D (p + 1)) v := fun v h => on_mono (fun b hb => ⟨hb.1, Nat.lt_of_lt_of_le hb.2 (P.T.nx_step p)⟩) v h
  cases hk : x.k with
  | skip =>
    rw [hk] at e4 e5
    have hw : wantedA ops.toList x.d.tm x.t.o.guard = false := by
      cases hh : wantedA ops.toList x.d.tm x.t.o.guard with
      | false => rfl
      | true => exact absurd (e4.1 hh) (by simp)
    rw [hw, if_neg (by simp)]
    refine ⟨fun _ _ => trivial, ?_⟩
    have := quietEnd undefA e5.1 (by rw [hk]; rfl) (by rw [hk]; simp) (by simp [undefA, On, OnL])
    rwa [show conc σ undefA = undef by simp [undefA, conc, concL, undef]] at this
  | still =>
    rw [hk] at e4 e5
    rw [show wantedA ops.toList x.d.tm x.t.o.guard = true from e4.2 (by simp), if_pos rfl]
    obtain ⟨h1, ⟨s', h2⟩, _⟩ := e5
    have g := I.goodAt P hcp (Nat.le_of_lt hp)
    have hq : (still x.t.o.op || reads x.t.o.op) = true := by rw [h1]; rfl
    have h3 : opA ⟨(dAt xs dE c).s.h, nxAt xs dE p⟩ x.d.tm x.t.o = some (.val x.v ⟨(dAt xs dE c).s.h, nxAt xs dE p⟩) := by
      refine quiet_nx hq h2 ?_ _ (.inl h1)
      exact still_same h1 h2
    obtain ⟨k1, k2⟩ := opA_quiet g hev hq h3 rfl
    refine ⟨fun _ _ => trivial, ?_⟩
    rw [Oper.semAt_eq _ _ _ (not_defer h3), k1]
    exact quietEnd x.v rfl (by rw [hk]; rfl) (by rw [hk]; simp) (hup _ k2)
  | rd =>
    rw [hk] at e4 e5
    rw [show wantedA ops.toList x.d.tm x.t.o.guard = true from e4.2 (by simp), if_pos rfl]
    obtain ⟨h1, ⟨s', h2, h2'⟩, h3, _⟩ := e5
    have g := I.goodAt P hcp (Nat.le_of_lt hp)
    have hq : (still x.t.o.op || reads x.t.o.op) = true := by rw [h1, Bool.or_true]
    have h4 : opA ⟨(dAt xs dE c).s.h, nxAt xs dE p⟩ x.d.tm x.t.o = some (.val x.v ⟨(dAt xs dE c).s.h, nxAt xs dE p⟩) := by
      by_cases hne : NoEff xs c p
      · refine quiet_nx hq h2 h2' _ (.inr ?_)
        rw [e1]
        exact (P.T.h_same hcp hne).symm
      · obtain ⟨q, y, q1, q2, q3, q4, q5⟩ := first_eff hne
        have hly : listed.getD y.t.i false = false := by
          cases hh : listed.getD y.t.i false with
          | false => rfl
          | true => rw [I.quiet q y q1 q3 hh] at q4; cases q4
        have hmem := P.T.efs_mem q2 (Nat.le_of_lt hp) q3 q4
        rw [← e1] at hmem
        rcases readsBack_mem h3 _ hmem with hb | hb
        · rw [hm _ hb] at hly; cases hly
        · obtain ⟨s2, r1, r2⟩ := again_of hb
          refine quiet_nx hq r1 r2 _ (.inr ?_)
          exact (P.T.h_same q1 q5).symm
    obtain ⟨k1, k2⟩ := opA_quiet g hev hq h4 rfl
    refine ⟨fun _ _ => trivial, ?_⟩
    rw [Oper.semAt_eq _ _ _ (not_defer h4), k1]
    exact quietEnd x.v rfl (by rw [hk]; rfl) (by rw [hk]; simp) (hup _ k2)
  | mk ob =>
    rw [hk] at e4 e5
    rw [show wantedA ops.toList x.d.tm x.t.o.guard = true from e4.2 (by simp), if_pos rfl]
    obtain ⟨h1, ⟨s', h2, h2', h2''⟩, h3, _⟩ := e5
    have hnx : x.d.s.nx = nxAt xs dE p := by rw [e1]; rfl
    have hnD : ¬ Upto xs dE D p x.d.s.nx := by rw [hnx]; exact fun h => Nat.lt_irrefl _ h.2
    obtain ⟨m, hm1, k, obj, hm2, hm3, hm4⟩ := make_of (w := w) hev h1 h2 h2'' hnD
    rw [hnx] at hm2 hm3 hm4
    obtain ⟨σ', D', F', q1, q2, q3⟩ := I.add_make P hx hl hi hm hk hm3 hm4
    refine ⟨fun _ _ => trivial, ?_⟩
    rw [Oper.semAt_eq _ _ _ (not_defer h2), hm1]
    simp only [Sem.run_bind, hm2, Result.andThen_ok, Sem.run_pure, Oper.uponIn]
    rw [← q2]
    exact ⟨c, σ', D', F', q3⟩
  | ef r =>
    rw [hk] at e4 e5
    rw [show wantedA ops.toList x.d.tm x.t.o.guard = true from e4.2 (by simp), if_pos rfl]
    obtain ⟨h1, h2, h3, h4, h5⟩ := e5
    have hall : ∀ (q : Nat) (y : Stp), q < p → xs[q]? = some y → listed.getD y.t.i false = true := by
      intro q y hq hy
      rw [allL_eq, List.all_eq_true] at h1
      exact hm _ (h1 _ (by rw [e1]; exact P.T.dn_mem hq (Nat.le_of_lt hp) hy))
    obtain ⟨F', k1, k2, k3⟩ := I.publish P hcp (Nat.le_of_lt hp) hall
    rw [← e1] at k1
    refine h2 k1 hev fun σ' D' w' v g' x' hv he => ?_
    obtain ⟨c2, σ2, D2, r1, r2⟩ := I.add_effect P hx hl hi hm hk hall k2 k3 g' x' hv
    rw [he, ← r1]
    exact ⟨c2, σ2, D2, F', r2⟩
theorem Inv.any (P : Pre D0 n ops xs d0 dE) {ρ : Option Nat} {Q : Exit → Act → World → Prop}
    (hQ : ∀ {listed c σ D F a w}, Inv B Fm σ0 D0 n ops xs d0 dE a0 listed c σ D F a w → (∀ i, i < ops.size → listed.getD i false = true) → Q .normal a w) :
    ∀ (fuel : Nat) {listed : Array Bool} {c : Nat} {σ : Sig} {D : Nat → Prop} {F : Nat → Option Obj} {a : Act} {w : World}, listed.toList.count false ≤ fuel → Inv B Fm σ0 D0 n ops xs d0 dE a0 listed c σ D F a w →
      wpAnyIn { Fence.wide with round := ρ } 0 PP .any ops Q fuel listed a w := by
  have allL : ∀ {listed : Array Bool} {c : Nat} {σ : Sig} {D : Nat → Prop} {F : Nat → Option Obj} {a : Act} {w : World}, Inv B Fm σ0 D0 n ops xs d0 dE a0 listed c σ D F a w → Region.ready .any ops listed = [] → ∀ i, i < ops.size → listed.getD i false = true := by
    intro listed c σ D F a w I hr i
    induction i using Nat.strongRecOn with
    | _ i ih =>
      intro hi
      cases hh : listed.getD i false with
      | true => rfl
      | false =>
        have ho : ops[i]? = some ops[i] := by simp [hi]
        have hli : i < listed.size := by rw [I.size]; exact hi
        have : i ∈ Region.ready .any ops listed := by
          refine mem_ready.2 ⟨?_, ops[i], ho, fun e he hb => ?_⟩
          · simp only [Array.getD_eq_getD_getElem?, Array.getElem?_eq_getElem hli] at hh ⊢
            exact hh
          · have := P.T.edges i ops[i] (by rw [Array.getElem?_toList]; exact ho) e (by simpa using he) hb
            exact ih e.on this (by omega)
        rw [hr] at this
        cases this
  intro fuel
  induction fuel with
  | zero =>
    intro listed c σ D F a w hc I
    have hall : ∀ i, i < ops.size → listed.getD i false = true := by
      intro i hi
      have hli : i < listed.size := by rw [I.size]; exact hi
      cases hh : listed.getD i false with
      | true => rfl
      | false =>
        have : false ∈ listed.toList := by
          simp only [Array.getD_eq_getD_getElem?, Array.getElem?_eq_getElem hli, Option.getD_some] at hh
          rw [← hh]
          simp
        have := List.count_pos_iff.2 this
        omega
    refine ⟨?_, hQ I hall⟩
    cases hr : Region.ready .any ops listed with
    | nil => rfl
    | cons i l =>
      have hm : i ∈ Region.ready .any ops listed := by rw [hr]; simp
      obtain ⟨h1, o, ho, _⟩ := mem_ready.1 hm
      have hi : i < ops.size := (Array.getElem?_eq_some_iff.1 ho).1
      have hli : i < listed.size := by rw [I.size]; exact hi
      have h2 := hall i hi
      simp only [Array.getD_eq_getD_getElem?, Array.getElem?_eq_getElem hli, Option.getD_some] at h1 h2
      rw [h1] at h2
      cases h2
  | succ fuel ih =>
    intro listed c σ D F a w hc I
    refine ⟨fun hr => hQ I (allL I hr), fun i hi => ?_⟩
    refine wpOpIn_mono (fun a' w' h => ?_) (I.step P hi)
    obtain ⟨c', σ', D', F', I'⟩ := h
    refine ih ?_ I'
    obtain ⟨h1, o, ho, _⟩ := mem_ready.1 hi
    have hio : i < ops.size := (Array.getElem?_eq_some_iff.1 ho).1
    have hli : i < listed.size := by rw [I.size]; exact hio
    have hg : listed.toList[i]'(by simpa using hli) = false := by
      simp only [Array.getD_eq_getD_getElem?, Array.getElem?_eq_getElem hli, Option.getD_some] at h1
      simpa using h1
    rw [Array.toList_setIfInBounds, List.count_set (by simpa using hli), hg]
    simp at hc ⊢
    omega
theorem drawOk (hmix : PP.follows .mixedOrders = true) : DrawOk := by
  intro B Fm σ0 D0 s w n r ops id tm df a dE xs hreg htr htop g hf hr
  have T := Tra.of hreg htr
  refine wpIn_region_any hmix ?_
  have g1 : Good B Fm σ0 D0 s { w with drawn := w.drawn + 1 } := g.world rfl rfl rfl rfl
  have P : Pre D0 n ops xs ⟨tm, s, [], [], []⟩ dE := ⟨T, hf.tm.lim, g.below, hf.tm.on, htop⟩
  have hgd : ∀ i, (Array.replicate ops.size false).getD i false = false := by
    intro i
    simp only [Array.getD_eq_getD_getElem?, Array.getElem?_replicate]
    split <;> rfl
  have h0 : (dAt xs dE 0) = ⟨tm, s, [], [], []⟩ := T.first
  have hlist : ∀ q, Lof xs (Array.replicate ops.size false) q = false := by
    intro q
    unfold Lof
    split
    · exact hgd _
    · rfl
  have I : Inv B Fm σ0 D0 n ops xs ⟨tm, s, [], [], []⟩ dE a (Array.replicate ops.size false) 0 σ0 D0 Fm a { w with drawn := w.drawn + 1 } := by
    refine ⟨by simp, fun i m h => (by rw [hgd] at h; cases h), Nat.zero_le _, (by rw [h0]), fun q x h => (by omega), fun q x _ _ h => (by rw [hgd] at h; cases h), ?_, Ext.refl _ _, fun b hb => .inl (P.nx0 hb 0), fun _ _ h => h,
      fun q x ob _ _ h => (by rw [hgd] at h; cases h), fun q x ob q' x' ob' _ _ h => (by rw [hgd] at h; cases h), hf.tm.size, rfl, fun u => ?_, fun q x _ h => (by rw [hgd] at h; cases h)⟩
    · have e : (fun b => D0 b ∧ b < nxAt xs dE 0) = D0 := by
        funext b
        exact propext ⟨fun h => h.1, fun h => ⟨h, P.nx0 h 0⟩⟩
      rw [e, h0]
      exact g1
    · rw [vAt_below (p := 0) (Nat.zero_le _) (fun q x _ _ _ _ => hlist q)]
      exact hf.tm.val u
  refine Inv.any (ρ := r.map fun l => (σ0 l).b) P (fun {listed c σ D F a' w'} I' hall => ?_) ops.size (by simp) I
  have hallx : ∀ (q : Nat) (y : Stp), q < xs.length → xs[q]? = some y → listed.getD y.t.i false = true := by
    intro q y _ hy
    have := (T.item q y hy).1
    rw [Array.getElem?_toList] at this
    exact hall _ (Array.getElem?_eq_some_iff.1 this).1
  obtain ⟨F', k1, k2, _⟩ := I'.publish P I'.cle (Nat.le_refl _) hallx
  rw [dAt_end] at k1
  have hon : ∀ u, On (Upto xs dE D xs.length) (tmA dE.tm u) := by
    intro u
    have e := T.tm_at hf.tm.lim u (Nat.le_refl xs.length)
    rw [dAt_end] at e
    rw [e]
    rcases vAt_of (xs := xs) (tm0 := tm) (L := fun _ => true) (u := u) (m := xs.length) with h | ⟨q, y, h1, h2, _, _, h4⟩
    · rw [h]; exact on_mono (fun b hb => ⟨I'.ext.sub b hb, P.nx0 hb _⟩) _ (hf.tm.on u)
    · rw [h4]; exact on_mono (fun b hb => ⟨hb.1, Nat.lt_of_lt_of_le hb.2 (T.nx_mono (by omega))⟩) _ (I'.on q y h2 (hallx q y h1 h2))
  have hext : Ext σ0 D0 σ (Upto xs dE D xs.length) := ⟨fun b hb => ⟨I'.ext.sub b hb, P.nx0 hb _⟩, I'.ext.same⟩
  refine ⟨rfl, σ, Upto xs dE D xs.length, k1.frames k2, hext, ⟨⟨I'.tsize, hf.tm.lim, fun u => ?_, hon⟩, ?_, fun b hb => onDf_ext hext (hf.on b hb)⟩⟩
  · have e := T.tm_at hf.tm.lim u (Nat.le_refl xs.length)
    rw [dAt_end] at e
    simp only
    rw [I'.slot u, e]
    congr 1
    refine vAt_congr fun q y hq hy _ => ?_
    rw [Lof_at hy]
    exact hallx q y hq hy
  · rw [I'.defers, hf.df]
    exact List.map_congr_left fun b hb => (mrk_ext I'.ext (hf.on b hb)).symm
end
end Go.Ev
