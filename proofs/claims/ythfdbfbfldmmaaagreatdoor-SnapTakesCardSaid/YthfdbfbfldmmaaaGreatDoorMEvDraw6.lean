/-
  Open regions: one operation more.
-/
import Derived.Test.YthfdbfbfldmmaaaGreatDoorMEvDraw5
set_option linter.unusedVariables false
set_option linter.unusedSimpArgs false
set_option linter.unusedVariables false
set_option linter.unusedSimpArgs false
namespace Go.Ev
open Go.RowKit (Below)
section
variable {B : World} {Fm : Nat → Option Obj} {σ0 : Sig} {D0 : Nat → Prop} {n : Nat} {ops : Array Oper} {xs : List Stp} {d0 dE : Dr} {a0 : Act}
variable {listed : Array Bool} {c : Nat} {σ : Sig} {D : Nat → Prop} {F : Nat → Option Obj} {a : Act} {w : World}
theorem Tra.add_cases (T : Tra n ops xs d0 dE) {p q : Nat} {x y : Stp} (hx : xs[p]? = some x) (hi : x.t.i < listed.size) (hy : xs[q]? = some y) (h : (listed.setIfInBounds x.t.i true).getD y.t.i false = true) :
    (q = p ∧ y = x) ∨ (q ≠ p ∧ listed.getD y.t.i false = true) := by
  rw [getD_set hi] at h
  by_cases e : x.t.i = y.t.i
  · have := T.once q p y x hy hx e.symm
    subst this
    rw [hx] at hy
    exact .inl ⟨rfl, (Option.some.inj hy).symm⟩
  · rw [if_neg e] at h
    refine .inr ⟨fun k => e ?_, h⟩
    subst k
    rw [hx] at hy
    rw [Option.some.inj hy]
theorem add_mono {i j : Nat} (hi : i < listed.size) (h : listed.getD j false = true) : (listed.setIfInBounds i true).getD j false = true := by
  rw [getD_set hi]
  split
  · rfl
  · exact h
theorem Inv.add_quiet (P : Pre D0 n ops xs d0 dE) (I : Inv B Fm σ0 D0 n ops xs d0 dE a0 listed c σ D F a w) {p : Nat} {x : Stp} (hx : xs[p]? = some x) (hl : listed.getD x.t.i false = false)
    (hi : x.t.i < listed.size) (hm : ∀ j, bit x.t.m j = true → listed.getD j false = true) (hk : x.k.eff = false) (hnm : ∀ ob, x.k ≠ .mk ob) (hv : On (Upto xs dE D (p + 1)) x.v) :
    Inv B Fm σ0 D0 n ops xs d0 dE a0 (listed.setIfInBounds x.t.i true) c σ D F (a.put x.t.o.dst (conc σ x.v)) w := by
  obtain ⟨s1, s2, s3⟩ := I.slot_add P (σ' := σ) (fun _ _ => rfl) hx hl hi hm
  refine ⟨by simp [I.size], I.closed.add hi (P.T.item p x hx).2 hm, I.cle, I.pds, fun q y h1 h2 => add_mono hi (I.done q y h1 h2), fun q y h1 h2 h3 => ?_, I.good, I.ext, fun b hb => ?_, I.sub, fun q y ob h1 h2 h3 h4 => ?_,
    fun q y ob q' y' ob' h1 h2 h3 h4 k1 k2 k3 k4 he => ?_, s1, s2, s3, fun q y h1 h2 => ?_⟩
  · rcases P.T.add_cases hx hi h2 h3 with ⟨rfl, rfl⟩ | ⟨_, h⟩
    · exact hk
    · exact I.quiet q y h1 h2 h
  · refine (I.dom b hb).imp id ?_
    rintro ⟨q, y, ob, h1, h2, h3, h4, h5⟩
    exact ⟨q, y, ob, h1, h2, add_mono hi h3, h4, h5⟩
  · rcases P.T.add_cases hx hi h2 h3 with ⟨rfl, rfl⟩ | ⟨_, h⟩
    · exact absurd h4 (hnm ob)
    · exact I.early q y ob h1 h2 h h4
  · rcases P.T.add_cases hx hi h2 h3 with ⟨rfl, rfl⟩ | ⟨_, h⟩
    · exact absurd h4 (hnm ob)
    · rcases P.T.add_cases hx hi k2 k3 with ⟨rfl, rfl⟩ | ⟨_, k⟩
      · exact absurd k4 (hnm ob')
      · exact I.apart q y ob q' y' ob' h1 h2 h h4 k1 k2 k k4 he
  · rcases P.T.add_cases hx hi h1 h2 with ⟨rfl, rfl⟩ | ⟨_, h⟩
    · exact hv
    · exact I.on q y h1 h
theorem Tra.nx_ne (T : Tra n ops xs d0 dE) {p q : Nat} {x y : Stp} {ob ob' : AO} (hx : xs[p]? = some x) (hk : x.k = .mk ob) (hy : xs[q]? = some y) (hk' : y.k = .mk ob') (h : nxAt xs dE p = nxAt xs dE q) : p = q := by
  have e1 := (T.nx_make hx hk).1
  have e2 := (T.nx_make hy hk').1
  unfold nxAt at h
  rcases Nat.lt_trichotomy p q with k | k | k
  · have := T.nx_mono (show p + 1 ≤ q by omega); omega
  · exact k
  · have := T.nx_mono (show q + 1 ≤ p by omega); omega
theorem Inv.add_make (P : Pre D0 n ops xs d0 dE) (I : Inv B Fm σ0 D0 n ops xs d0 dE a0 listed c σ D F a w) {p : Nat} {x : Stp} {ob : AO} (hx : xs[p]? = some x) (hl : listed.getD x.t.i false = false)
    (hi : x.t.i < listed.size) (hm : ∀ j, bit x.t.m j = true → listed.getD j false = true) (hk : x.k = .mk ob) {k : Nat} {obj : Obj}
    (hr : ORel (upd σ (nxAt xs dE p) ⟨w.heap.size, k⟩) (plus (Upto xs dE D p) (nxAt xs dE p)) ⟨w.heap.size, k⟩ ob obj) (hv : On (plus (Upto xs dE D p) (nxAt xs dE p)) x.v) :
    ∃ σ' D' F', (∀ b, D b → σ' b = σ b) ∧ σ' = upd σ (nxAt xs dE p) ⟨w.heap.size, k⟩ ∧
    Inv B Fm σ0 D0 n ops xs d0 dE a0 (listed.setIfInBounds x.t.i true) c σ' D' F' (a.put x.t.o.dst (conc σ' x.v)) (w.alloc obj) := by
  have hcp : c ≤ p := by
    rcases Nat.lt_or_ge p c with h | h
    · rw [I.done p x h hx] at hl; cases hl
    · exact h
  have hb : ¬ D (nxAt xs dE p) := by
    intro h
    rcases I.dom _ h with h1 | ⟨q, y, ob', h1, h2, h3, h4, h5⟩
    · have := P.T.nx_mono hcp; unfold nxAt at h1; omega
    · have := P.T.nx_ne hx hk h2 h4 h5
      subst this
      rw [hx] at h2
      cases h2
      rw [hl] at h3
      cases h3
  obtain ⟨b, hbe⟩ : ∃ b, b = nxAt xs dE p := ⟨_, rfl⟩
  rw [← hbe] at hr hv hb ⊢
  have hσ : ∀ b', D b' → upd σ b ⟨w.heap.size, k⟩ b' = σ b' := fun b' h => upd_other σ _ (fun e => hb (e ▸ h))
  have hext : Ext σ D (upd σ b ⟨w.heap.size, k⟩) (plus D b) := ⟨fun _ h => .inl h, hσ⟩
  have hnx1 : nxAt xs dE (p + 1) = b + 1 := by rw [hbe]; exact (P.T.nx_make hx hk).1
  have hcb : nxAt xs dE c ≤ b := by rw [hbe]; exact P.T.nx_mono hcp
  have hnew : Fm w.heap.size = none ∧ F w.heap.size = none := by
    have h2 : F w.heap.size = none := by
      cases hq : F w.heap.size with
      | none => rfl
      | some q => have := (Array.getElem?_eq_some_iff.1 (I.good.frame _ q hq)).1; omega
    refine ⟨?_, h2⟩
    cases hq : Fm w.heap.size with
    | none => rfl
    | some q => rw [I.sub _ _ hq] at h2; cases h2
  obtain ⟨s1, s2, s3⟩ := I.slot_add P hσ hx hl hi hm
  have hsub : ∀ b', plus (Upto xs dE D p) b b' → plus D b b' ∧ b' < nxAt xs dE (p + 1) := by
    rintro b' (h | rfl)
    · exact ⟨.inl h.1, Nat.lt_of_lt_of_le h.2 (P.T.nx_step p)⟩
    · exact ⟨.inr rfl, by omega⟩
  refine ⟨upd σ b ⟨w.heap.size, k⟩, plus D b, fun i => if i = w.heap.size then some obj else F i, hσ, rfl, by simp [I.size], I.closed.add hi (P.T.item p x hx).2 hm, I.cle, I.pds, fun q y h1 h2 => add_mono hi (I.done q y h1 h2), fun q y h1 h2 h3 => ?_, ?_, I.ext.trans hext, fun b' hb' => ?_, fun i o h => ?_, fun q y ob' h1 h2 h3 h4 => ?_,
    fun q y ob1 q' y' ob2 h1 h2 h3 h4 k1 k2 k3 k4 he => ?_, s1, s2, s3, fun q y h1 h2 => ?_⟩
  · rcases P.T.add_cases hx hi h2 h3 with ⟨rfl, rfl⟩ | ⟨_, h⟩
    · rw [hk]; rfl
    · exact I.quiet q y h1 h2 h
  · have e : (fun b' => plus D b b' ∧ b' < nxAt xs dE c) = fun b' => D b' ∧ b' < nxAt xs dE c := by
      funext b'
      refine propext ⟨?_, fun h => ⟨.inl h.1, h.2⟩⟩
      rintro ⟨h | rfl, h2⟩
      · exact ⟨h, h2⟩
      · omega
    rw [e]
    exact (I.good.side obj).congr fun b' hb' => hσ b' hb'.1
  · rcases hb' with h | rfl
    · refine (I.dom b' h).imp id ?_
      rintro ⟨q, y, ob', h1, h2, h3, h4, h5⟩
      exact ⟨q, y, ob', h1, h2, add_mono hi h3, h4, h5⟩
    · exact .inr ⟨p, x, ob, hcp, hx, by rw [getD_set hi, if_pos rfl], hk, hbe⟩
  · have := I.sub i o h
    split
    · rename_i e; rw [e, hnew.2] at this; cases this
    · exact this
  · rcases P.T.add_cases hx hi h2 h3 with ⟨rfl, rfl⟩ | ⟨hq, h⟩
    · rw [hk] at h4
      cases h4
      rw [← hbe, upd_same]
      exact ⟨.inr rfl, obj, by simp, hnew.1, Ext.orel ⟨hsub, fun _ _ => rfl⟩ hr⟩
    · obtain ⟨k1, obj', k2, k3, k4⟩ := I.early q y ob' h1 h2 h h4
      rw [hσ _ k1]
      refine ⟨.inl k1, obj', ?_, k3, Ext.orel (σ' := upd σ b ⟨w.heap.size, k⟩) (D' := fun b' => plus D b b' ∧ b' < nxAt xs dE (q + 1)) ⟨fun b' h => ⟨.inl h.1, h.2⟩, fun b' h => hσ b' h.1⟩ k4⟩
      rw [if_neg]
      · exact k2
      · intro e; rw [e, hnew.2] at k2; cases k2
  · have hne : ∀ (q : Nat) (y : Stp) (ob1 : AO), c ≤ q → xs[q]? = some y → listed.getD y.t.i false = true → y.k = .mk ob1 → (upd σ b ⟨w.heap.size, k⟩ (nxAt xs dE q)).b ≠ w.heap.size := by
      intro q y ob1 h1 h2 h h4 e
      obtain ⟨k1, obj', k2, _⟩ := I.early q y ob1 h1 h2 h h4
      rw [hσ _ k1] at e
      rw [e, hnew.2] at k2
      cases k2
    rcases P.T.add_cases hx hi h2 h3 with ⟨rfl, rfl⟩ | ⟨_, h⟩ <;> rcases P.T.add_cases hx hi k2 k3 with ⟨rfl, rfl⟩ | ⟨_, k⟩
    · rfl
    · rw [← hbe, upd_same] at he
      exact absurd he.symm (hne q' y' ob2 k1 k2 k k4)
    · rw [← hbe, upd_same] at he
      exact absurd he (hne q y ob1 h1 h2 h h4)
    · rw [hσ _ (I.early q y ob1 h1 h2 h h4).1, hσ _ (I.early q' y' ob2 k1 k2 k k4).1] at he
      exact I.apart q y ob1 q' y' ob2 h1 h2 h h4 k1 k2 k k4 he
  · rcases P.T.add_cases hx hi h1 h2 with ⟨rfl, rfl⟩ | ⟨_, h⟩
    · exact on_mono hsub _ hv
    · exact on_mono (fun b' h => ⟨.inl h.1, h.2⟩) _ (I.on q y h1 h)
theorem Inv.publish (P : Pre D0 n ops xs d0 dE) (I : Inv B Fm σ0 D0 n ops xs d0 dE a0 listed c σ D F a w) {p : Nat} (hcp : c ≤ p) (hp : p ≤ xs.length) (hall : ∀ (q : Nat) (y : Stp), q < p → xs[q]? = some y → listed.getD y.t.i false = true) :
    ∃ F', Good B F' σ (Upto xs dE D p) (publish (dAt xs dE p).pds (dAt xs dE p).s) w ∧ (∀ i o, Fm i = some o → F' i = some o) ∧
    ∀ (q : Nat) (y : Stp) (ob : AO), p ≤ q → xs[q]? = some y → listed.getD y.t.i false = true → y.k = .mk ob → F' (σ (nxAt xs dE q)).b = F (σ (nxAt xs dE q)).b := by
  have hne : NoEff xs c p := fun q y h1 h2 h3 => I.quiet q y h1 h3 (hall q y h2 h3)
  have g := I.goodAt P hcp hp
  rw [← P.T.h_same hcp hne] at g
  obtain ⟨m1, m2⟩ := P.T.pds_mem hcp hne I.pds
  obtain ⟨F', k1, k2, k3⟩ := publish_good g (fun pd hpd => by
    obtain ⟨q, y, h1, h2, h3, h4, h5⟩ := m1 pd hpd
    have he := I.early q y pd.o h1 h3 (hall q y h2 h3) h4
    have hq1 := (P.T.nx_make h3 h4).1
    have hq2 := P.T.nx_mono (show q + 1 ≤ p by omega)
    have h5 : pd.b = nxAt xs dE q := h5
    rw [h5]
    obtain ⟨e1, obj, e2, _, e4⟩ := he
    refine ⟨⟨e1, by unfold nxAt; omega⟩, obj, e2, Ext.orel ⟨fun b hb => ⟨hb.1, Nat.lt_of_lt_of_le hb.2 hq2⟩, fun _ _ => rfl⟩ e4⟩) (by
    refine List.Pairwise.imp_of_mem ?_ m2
    intro pd pd' hpd hpd' hlt he
    obtain ⟨q, y, h1, h2, h3, h4, h5⟩ := m1 pd hpd
    obtain ⟨q', y', h1', h2', h3', h4', h5'⟩ := m1 pd' hpd'
    have h5 : pd.b = nxAt xs dE q := h5
    have h5' : pd'.b = nxAt xs dE q' := h5'
    rw [h5, h5'] at he
    have := I.apart q y _ q' y' _ h1 h3 (hall q y h2 h3) h4 h1' h3' (hall q' y' h2' h3') h4' he
    subst this
    omega)
  have hloc : ∀ i, F' i = F i ∨ ∃ (q : Nat) (y : Stp) (ob : AO), c ≤ q ∧ q < p ∧ xs[q]? = some y ∧ y.k = .mk ob ∧ i = (σ (nxAt xs dE q)).b := by
    intro i
    refine (k3 i).imp id ?_
    rintro ⟨pd, hpd, e⟩
    obtain ⟨q, y, h1, h2, h3, h4, h5⟩ := m1 pd hpd
    exact ⟨q, y, _, h1, h2, h3, h4, by rw [e, h5]; rfl⟩
  refine ⟨F', k1, fun i o h => ?_, fun q y ob h1 h2 h3 h4 => ?_⟩
  · rcases hloc i with e | ⟨q, y, ob, h1, h2, h3, h4, e⟩
    · rw [e]; exact I.sub i o h
    · obtain ⟨_, _, _, e2, _⟩ := I.early q y ob h1 h3 (hall q y h2 h3) h4
      rw [e, e2] at h
      cases h
  · rcases hloc (σ (nxAt xs dE q)).b with e | ⟨q', y', ob', k1, k2, k3, k4, e⟩
    · exact e
    · have := I.apart q y ob q' y' ob' (by omega) h2 h3 h4 k1 k3 (hall q' y' k2 k3) k4 e
      omega
theorem Inv.add_effect (P : Pre D0 n ops xs d0 dE) (I : Inv B Fm σ0 D0 n ops xs d0 dE a0 listed c σ D F a w) {p : Nat} {x : Stp} {r : AV × St} (hx : xs[p]? = some x) (hl : listed.getD x.t.i false = false)
    (hi : x.t.i < listed.size) (hm : ∀ j, bit x.t.m j = true → listed.getD j false = true) (hk : x.k = .ef r) {F' : Nat → Option Obj}
    (hall : ∀ (q : Nat) (y : Stp), q < p → xs[q]? = some y → listed.getD y.t.i false = true) (hsub : ∀ i o, Fm i = some o → F' i = some o)
    (hF' : ∀ (q : Nat) (y : Stp) (ob : AO), p ≤ q → xs[q]? = some y → listed.getD y.t.i false = true → y.k = .mk ob → F' (σ (nxAt xs dE q)).b = F (σ (nxAt xs dE q)).b)
    {σ' : Sig} {D' : Nat → Prop} {w' : World} (g : Good B F' σ' D' r.2 w') (hext : Ext σ (Upto xs dE D p) σ' D') (hv : On D' r.1) :
    ∃ c'' σ'' D'', conc σ'' x.v = conc σ' r.1 ∧ Inv B Fm σ0 D0 n ops xs d0 dE a0 (listed.setIfInBounds x.t.i true) c'' σ'' D'' F' (a.put x.t.o.dst (conc σ'' x.v)) w' := by
  have hp : p < xs.length := (List.getElem?_eq_some_iff.1 hx).1
  have hcp : c ≤ p := by
    rcases Nat.lt_or_ge p c with h | h
    · rw [I.done p x h hx] at hl; cases hl
    · exact h
  obtain ⟨e1, e2, e3, _, e4⟩ := P.T.step p x hx
  rw [hk] at e4
  obtain ⟨_, _, hxv, _, e5⟩ := e4
  have hs1 : (dAt xs dE (p + 1)).s = r.2 := by rw [← e2, e5]
  have hpd1 : (dAt xs dE (p + 1)).pds = [] := by rw [← e2, e5]
  have hN : nxAt xs dE (p + 1) = r.2.nx := by unfold nxAt; rw [hs1]
  have hle : nxAt xs dE p ≤ r.2.nx := by rw [← hN]; exact P.T.nx_step p
  have hlate : ∀ b, D b → b < nxAt xs dE p ∨ r.2.nx ≤ b := by
    intro b hb
    rcases I.dom b hb with h | ⟨q, y, ob, h1, h2, h3, h4, h5⟩
    · exact .inl (Nat.lt_of_lt_of_le h (P.T.nx_mono hcp))
    · rcases Nat.lt_trichotomy q p with k | k | k
      · left
        have q1 := (P.T.nx_make h2 h4).1
        have q2 := P.T.nx_mono (show q + 1 ≤ p by omega)
        rw [h5]
        unfold nxAt
        omega
      · subst k
        rw [hx] at h2
        cases h2
        rw [hk] at h4
        cases h4
      · right
        rw [h5, ← hN]
        exact P.T.nx_mono (by omega)
  obtain ⟨σ2, hσ2⟩ : ∃ σ2 : Sig, σ2 = fun b => if r.2.nx ≤ b then σ b else σ' b := ⟨_, rfl⟩
  obtain ⟨D2, hD2⟩ : ∃ D2 : Nat → Prop, D2 = fun b => D' b ∨ (D b ∧ r.2.nx ≤ b) := ⟨_, rfl⟩
  have hσn : ∀ b, D' b → σ2 b = σ' b := by
    intro b hb
    rw [hσ2]
    simp only
    rw [if_neg (by have := g.below b hb; omega)]
  have hσo : ∀ b, D b → σ2 b = σ b := by
    intro b hb
    rw [hσ2]
    simp only
    rcases hlate b hb with h | h
    · rw [if_neg (by omega)]; exact hext.same b ⟨hb, h⟩
    · rw [if_pos h]
  have hDo : ∀ b, D b → D2 b := by
    intro b hb
    rw [hD2]
    rcases hlate b hb with h | h
    · exact .inl (hext.sub b ⟨hb, h⟩)
    · exact .inr ⟨hb, h⟩
  have hcut : (fun b => D2 b ∧ b < nxAt xs dE (p + 1)) = D' := by
    funext b
    rw [hD2, hN]
    refine propext ⟨?_, fun h => ⟨.inl h, g.below b h⟩⟩
    rintro ⟨h | h, h2⟩
    · exact h
    · omega
  have hcx : conc σ2 x.v = conc σ' r.1 := by rw [hxv]; exact conc_congr hσn _ hv
  obtain ⟨s1, s2, s3⟩ := I.slot_add P hσo hx hl hi hm
  refine ⟨p + 1, σ2, D2, hcx, by simp [I.size], I.closed.add hi (P.T.item p x hx).2 hm, by omega, hpd1, fun q y h1 h2 => ?_, fun q y h1 h2 h3 => ?_, ?_, I.ext.trans ⟨hDo, hσo⟩, fun b hb => ?_, hsub, fun q y ob h1 h2 h3 h4 => ?_,
    fun q y ob q' y' ob' h1 h2 h3 h4 k1 k2 k3 k4 he => ?_, s1, s2, s3, fun q y h1 h2 => ?_⟩
  · rcases Nat.lt_or_ge q p with h | h
    · exact add_mono hi (hall q y h h2)
    · have : q = p := by omega
      subst this
      rw [hx] at h2
      cases h2
      rw [getD_set hi, if_pos rfl]
  · rcases P.T.add_cases hx hi h2 h3 with ⟨rfl, rfl⟩ | ⟨_, h⟩
    · omega
    · exact I.quiet q y (by omega) h2 h
  · rw [hcut, hs1]
    exact g.congr hσn
  · rw [hD2] at hb
    rcases hb with h | ⟨h, h'⟩
    · left; rw [hN]; exact g.below b h
    · rcases I.dom b h with k | ⟨q, y, ob, h1, h2, h3, h4, h5⟩
      · have := P.T.nx_mono hcp
        unfold nxAt at k hle
        omega
      · refine .inr ⟨q, y, ob, ?_, h2, add_mono hi h3, h4, h5⟩
        rcases Nat.lt_trichotomy q p with k | k | k
        · have q1 := (P.T.nx_make h2 h4).1
          have q2 := P.T.nx_mono (show q + 1 ≤ p by omega)
          rw [h5] at h'
          unfold nxAt at h' hle
          omega
        · subst k
          rw [hx] at h2
          cases h2
          rw [hk] at h4
          cases h4
        · exact k
  · rcases P.T.add_cases hx hi h2 h3 with ⟨rfl, rfl⟩ | ⟨_, h⟩
    · omega
    · obtain ⟨k1, obj, k2, k3, k4⟩ := I.early q y ob (by omega) h2 h h4
      rw [hσo _ k1]
      refine ⟨hDo _ k1, obj, ?_, k3, Ext.orel (σ' := σ2) (D' := fun b => D2 b ∧ b < nxAt xs dE (q + 1)) ⟨fun b hb => ⟨hDo b hb.1, hb.2⟩, fun b hb => hσo b hb.1⟩ k4⟩
      rw [hF' q y ob (by omega) h2 h h4]
      exact k2
  · rcases P.T.add_cases hx hi h2 h3 with ⟨rfl, rfl⟩ | ⟨_, h⟩
    · omega
    · rcases P.T.add_cases hx hi k2 k3 with ⟨rfl, rfl⟩ | ⟨_, k⟩
      · omega
      · rw [hσo _ (I.early q y ob (by omega) h2 h h4).1, hσo _ (I.early q' y' ob' (by omega) k2 k k4).1] at he
        exact I.apart q y ob q' y' ob' (by omega) h2 h h4 (by omega) k2 k k4 he
  · rcases P.T.add_cases hx hi h1 h2 with ⟨rfl, rfl⟩ | ⟨_, h⟩
    · rw [hcut, hxv]; exact hv
    · exact on_mono (fun b hb => ⟨hDo b hb.1, hb.2⟩) _ (I.on q y h1 h)
end
end Go.Ev
