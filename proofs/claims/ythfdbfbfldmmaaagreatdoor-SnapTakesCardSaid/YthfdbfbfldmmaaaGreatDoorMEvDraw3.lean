/-
  Of the run of an open region in the one order: numbers, blocks, effects and slots, position by position.
-/
import Derived.Test.YthfdbfbfldmmaaaGreatDoorMEvDraw2
set_option linter.unusedVariables false
set_option linter.unusedSimpArgs false
set_option linter.unusedVariables false
set_option linter.unusedSimpArgs false
namespace Go.Ev
open Go.RowKit (Below)
def Kd.eff : Kd → Bool
  | .ef _ => true
  | _ => false
section
variable {n : Nat} {ops : Array Oper} {xs : List Stp} {d0 dE : Dr}
theorem dAt_none {p : Nat} (h : xs[p]? = none) : dAt xs dE p = dE ∧ dAt xs dE (p + 1) = dE := by
  have : xs[p + 1]? = none := by
    rw [List.getElem?_eq_none_iff] at h ⊢
    omega
  simp [dAt, h, this]
theorem Tra.same (T : Tra n ops xs d0 dE) {p : Nat} {x : Stp} (hx : xs[p]? = some x) (hk : x.k.eff = false) :
    (dAt xs dE (p + 1)).s.h = (dAt xs dE p).s.h ∧ (dAt xs dE (p + 1)).efs = (dAt xs dE p).efs := by
  obtain ⟨h1, h2, _, _, h3⟩ := T.step p x hx
  rw [← h1, ← h2]
  cases hkk : x.k with
  | ef p => rw [hkk] at hk; simp [Kd.eff] at hk
  | skip => rw [hkk] at h3; obtain ⟨_, h3⟩ := h3; rw [h3]; exact ⟨rfl, rfl⟩
  | still => rw [hkk] at h3; obtain ⟨_, _, h3⟩ := h3; rw [h3]; exact ⟨rfl, rfl⟩
  | rd => rw [hkk] at h3; obtain ⟨_, _, _, h3⟩ := h3; rw [h3]; exact ⟨rfl, rfl⟩
  | mk ob => rw [hkk] at h3; obtain ⟨_, _, _, h3⟩ := h3; rw [h3]; exact ⟨rfl, rfl⟩
theorem Tra.dn_step (T : Tra n ops xs d0 dE) {p : Nat} {x : Stp} (hx : xs[p]? = some x) : (dAt xs dE (p + 1)).dn = x.t.i :: (dAt xs dE p).dn := by
  obtain ⟨h1, h2, _, _, h3⟩ := T.step p x hx
  rw [← h1, ← h2]
  cases hkk : x.k with
  | ef p => rw [hkk] at h3; obtain ⟨_, _, _, _, h3⟩ := h3; rw [h3]
  | skip => rw [hkk] at h3; obtain ⟨_, h3⟩ := h3; rw [h3]
  | still => rw [hkk] at h3; obtain ⟨_, _, h3⟩ := h3; rw [h3]
  | rd => rw [hkk] at h3; obtain ⟨_, _, _, h3⟩ := h3; rw [h3]
  | mk ob => rw [hkk] at h3; obtain ⟨_, _, _, h3⟩ := h3; rw [h3]
theorem Tra.nx_step (T : Tra n ops xs d0 dE) (p : Nat) : (dAt xs dE p).s.nx ≤ (dAt xs dE (p + 1)).s.nx := by
  cases hx : xs[p]? with
  | none => obtain ⟨h1, h2⟩ := dAt_none (dE := dE) hx; rw [h1, h2]; exact Nat.le_refl _
  | some x =>
    obtain ⟨h1, h2, _, _, h3⟩ := T.step p x hx
    rw [← h1, ← h2]
    cases hkk : x.k with
    | ef p => rw [hkk] at h3; obtain ⟨_, _, _, h4, h3⟩ := h3; rw [h3]; exact h4
    | skip => rw [hkk] at h3; obtain ⟨_, h3⟩ := h3; rw [h3]; exact Nat.le_refl _
    | still => rw [hkk] at h3; obtain ⟨_, _, h3⟩ := h3; rw [h3]; exact Nat.le_refl _
    | rd => rw [hkk] at h3; obtain ⟨_, _, _, h3⟩ := h3; rw [h3]; exact Nat.le_refl _
    | mk ob => rw [hkk] at h3; obtain ⟨_, _, _, h3⟩ := h3; rw [h3]; simp
theorem Tra.nx_mono (T : Tra n ops xs d0 dE) {p q : Nat} (h : p ≤ q) : (dAt xs dE p).s.nx ≤ (dAt xs dE q).s.nx := by
  induction q with
  | zero => rw [Nat.le_zero.1 h]; exact Nat.le_refl _
  | succ q ih =>
    rcases Nat.lt_or_ge p (q + 1) with hp | hp
    · exact Nat.le_trans (ih (by omega)) (T.nx_step q)
    · rw [show p = q + 1 by omega]; exact Nat.le_refl _
theorem Tra.nx_make (T : Tra n ops xs d0 dE) {p : Nat} {x : Stp} {ob : AO} (hx : xs[p]? = some x) (hk : x.k = .mk ob) :
    (dAt xs dE (p + 1)).s.nx = (dAt xs dE p).s.nx + 1 ∧ (dAt xs dE (p + 1)).pds = ⟨(dAt xs dE p).s.nx, ob⟩ :: (dAt xs dE p).pds := by
  obtain ⟨h1, h2, _, _, h3⟩ := T.step p x hx
  rw [← h1, ← h2]
  rw [hk] at h3
  obtain ⟨_, _, _, h3⟩ := h3
  rw [h3]
  exact ⟨rfl, rfl⟩
theorem Tra.pds_quiet (T : Tra n ops xs d0 dE) {p : Nat} {x : Stp} (hx : xs[p]? = some x) (hk : x.k.eff = false) (hm : ∀ ob, x.k ≠ .mk ob) :
    (dAt xs dE (p + 1)).pds = (dAt xs dE p).pds ∧ (dAt xs dE (p + 1)).s = (dAt xs dE p).s := by
  obtain ⟨h1, h2, _, _, h3⟩ := T.step p x hx
  rw [← h1, ← h2]
  cases hkk : x.k with
  | ef p => rw [hkk] at hk; simp [Kd.eff] at hk
  | skip => rw [hkk] at h3; obtain ⟨_, h3⟩ := h3; rw [h3]; exact ⟨rfl, rfl⟩
  | still => rw [hkk] at h3; obtain ⟨_, _, h3⟩ := h3; rw [h3]; exact ⟨rfl, rfl⟩
  | rd => rw [hkk] at h3; obtain ⟨_, _, _, h3⟩ := h3; rw [h3]; exact ⟨rfl, rfl⟩
  | mk ob => exact absurd hkk (hm ob)
def NoEff (xs : List Stp) (c p : Nat) : Prop := ∀ (q : Nat) (x : Stp), c ≤ q → q < p → xs[q]? = some x → x.k.eff = false
theorem Tra.h_same (T : Tra n ops xs d0 dE) {c p : Nat} (hc : c ≤ p) (hn : NoEff xs c p) : (dAt xs dE p).s.h = (dAt xs dE c).s.h := by
  induction p with
  | zero => rw [Nat.le_zero.1 hc]
  | succ p ih =>
    rcases Nat.lt_or_ge c (p + 1) with hp | hp
    · have ih := ih (by omega) (fun q x h1 h2 => hn q x h1 (by omega))
      cases hx : xs[p]? with
      | none => obtain ⟨h1, h2⟩ := dAt_none (dE := dE) hx; rw [h2]; rw [h1] at ih; exact ih
      | some x => rw [(T.same hx (hn p x (by omega) (by omega) hx)).1]; exact ih
    · rw [show c = p + 1 by omega]
theorem Tra.pds_mem (T : Tra n ops xs d0 dE) {c p : Nat} (hc : c ≤ p) (hn : NoEff xs c p) (h0 : (dAt xs dE c).pds = []) :
    (∀ pd ∈ (dAt xs dE p).pds, ∃ (q : Nat) (x : Stp), c ≤ q ∧ q < p ∧ xs[q]? = some x ∧ x.k = .mk pd.o ∧ pd.b = (dAt xs dE q).s.nx) ∧
    (dAt xs dE p).pds.Pairwise (fun a b => b.b < a.b) := by
  induction p with
  | zero => rw [← Nat.le_zero.1 hc, h0]; simp
  | succ p ih =>
    rcases Nat.lt_or_ge c (p + 1) with hp | hp
    · obtain ⟨ih1, ih2⟩ := ih (by omega) (fun q x h1 h2 => hn q x h1 (by omega))
      cases hx : xs[p]? with
      | none =>
        obtain ⟨h1, h2⟩ := dAt_none (dE := dE) hx
        rw [h2]
        rw [h1] at ih1 ih2
        refine ⟨fun pd hpd => ?_, ih2⟩
        obtain ⟨q, x, k1, k2, k3⟩ := ih1 pd hpd
        exact ⟨q, x, k1, by omega, k3⟩
      | some x =>
        have hq := hn p x (by omega) (by omega) hx
        by_cases hm : ∃ ob, x.k = .mk ob
        · obtain ⟨ob, hm⟩ := hm
          rw [(T.nx_make hx hm).2]
          refine ⟨fun pd hpd => ?_, List.pairwise_cons.2 ⟨fun pd hpd => ?_, ih2⟩⟩
          · rcases List.mem_cons.1 hpd with rfl | hpd
            · exact ⟨p, x, by omega, by omega, hx, hm, rfl⟩
            · obtain ⟨q, y, k1, k2, k3⟩ := ih1 pd hpd
              exact ⟨q, y, k1, by omega, k3⟩
          · obtain ⟨q, y, k1, k2, k3, k4, k5⟩ := ih1 pd hpd
            have e1 := (T.nx_make k3 k4).1
            have e2 := T.nx_mono (show q + 1 ≤ p by omega)
            rw [k5]
            simp only
            omega
        · rw [(T.pds_quiet hx hq (fun ob e => hm ⟨ob, e⟩)).1]
          refine ⟨fun pd hpd => ?_, ih2⟩
          obtain ⟨q, y, k1, k2, k3⟩ := ih1 pd hpd
          exact ⟨q, y, k1, by omega, k3⟩
    · rw [show p + 1 = c by omega, h0]; simp
theorem Tra.dn_mem (T : Tra n ops xs d0 dE) {p q : Nat} {y : Stp} (hq : q < p) (hp : p ≤ xs.length) (hy : xs[q]? = some y) : y.t.i ∈ (dAt xs dE p).dn := by
  induction p with
  | zero => omega
  | succ p ih =>
    have hx : xs[p]? = some xs[p] := by simp
    rw [T.dn_step hx]
    rcases Nat.lt_or_ge q p with h | h
    · exact List.mem_cons_of_mem _ (ih h (by omega))
    · have : q = p := by omega
      subst this
      rw [hx] at hy
      cases hy
      simp
theorem Tra.efs_mem (T : Tra n ops xs d0 dE) {p q : Nat} {y : Stp} (hq : q < p) (hp : p ≤ xs.length) (hy : xs[q]? = some y) (hk : y.k.eff = true) : ⟨y.t.i, (dAt xs dE q).s⟩ ∈ (dAt xs dE p).efs := by
  induction p with
  | zero => omega
  | succ p ih =>
    have hx : xs[p]? = some xs[p] := by simp
    cases he : xs[p].k.eff with
    | false =>
      rw [(T.same hx he).2]
      rcases Nat.lt_or_ge q p with h | h
      · exact ih h (by omega)
      · have : q = p := by omega
        subst this
        rw [hx] at hy
        cases hy
        rw [hk] at he
        cases he
    | true =>
      obtain ⟨h1, h2, _, _, h3⟩ := T.step p _ hx
      cases hkk : xs[p].k with
      | ef pp =>
        rw [hkk] at h3
        obtain ⟨_, _, _, _, h3⟩ := h3
        rw [← h2, h3, h1]
        rcases Nat.lt_or_ge q p with h | h
        · exact List.mem_cons_of_mem _ (ih h (by omega))
        · have : q = p := by omega
          subst this
          rw [hx] at hy
          cases hy
          simp
      | _ => rw [hkk] at he; cases he
theorem readsBack_mem {m : Nat} {tm : T AV} {o : Oper} {v : AV} : ∀ {efs : List Ef}, readsBack m tm o v efs = true → ∀ e ∈ efs, bit m e.i = true ∨ again e.s tm o v = true
  | [], _, e, he => by simp at he
  | f :: efs, h, e, he => by
    simp only [readsBack, Bool.and_eq_true, Bool.or_eq_true] at h
    rcases List.mem_cons.1 he with rfl | he
    · exact h.1
    · exact readsBack_mem h.2 e he
/-! ### Slots -/
/-- What a slot holds behind those of the first operations that are listed. -/
noncomputable def vAt (xs : List Stp) (tm0 : T AV) (L : Nat → Bool) (u : Tmp) : Nat → AV
  | 0 => tmA tm0 u
  | m + 1 => match xs[m]? with
    | some x => if L m = true ∧ x.t.o.dst = some u then x.v else vAt xs tm0 L u m
    | none => vAt xs tm0 L u m
theorem vAt_congr {tm0 : T AV} {L L' : Nat → Bool} {u : Tmp} : ∀ {m : Nat}, (∀ (q : Nat) (x : Stp), q < m → xs[q]? = some x → x.t.o.dst = some u → L q = L' q) → vAt xs tm0 L u m = vAt xs tm0 L' u m
  | 0, _ => rfl
  | m + 1, h => by
    have ih := vAt_congr (tm0 := tm0) (m := m) (fun q x hq => h q x (by omega))
    unfold vAt
    cases hx : xs[m]? with
    | none => exact ih
    | some x =>
      simp only
      by_cases hd : x.t.o.dst = some u
      · rw [h m x (by omega) hx hd, ih]
      · simp only [hd, and_false, if_false]; exact ih
theorem vAt_below {tm0 : T AV} {L : Nat → Bool} {u : Tmp} {p : Nat} : ∀ {m : Nat}, p ≤ m → (∀ (q : Nat) (x : Stp), p ≤ q → q < m → xs[q]? = some x → x.t.o.dst = some u → L q = false) → vAt xs tm0 L u m = vAt xs tm0 L u p
  | 0, hp, _ => by rw [Nat.le_zero.1 hp]
  | m + 1, hp, h => by
    rcases Nat.lt_or_ge p (m + 1) with hlt | hge
    · have ih := vAt_below (tm0 := tm0) (m := m) (by omega) (fun q x h1 h2 => h q x h1 (by omega))
      rw [← ih]
      conv => lhs; unfold vAt
      cases hx : xs[m]? with
      | none => rfl
      | some x =>
        simp only
        by_cases hd : x.t.o.dst = some u
        · rw [h m x (by omega) (by omega) hx hd]; simp
        · simp [hd]
    · rw [show p = m + 1 by omega]
theorem vAt_last {tm0 : T AV} {L : Nat → Bool} {u : Tmp} {p m : Nat} {x : Stp} (hp : p < m) (hx : xs[p]? = some x) (hL : L p = true) (hd : x.t.o.dst = some u)
    (h : ∀ (q : Nat) (y : Stp), p < q → q < m → xs[q]? = some y → y.t.o.dst = some u → L q = false) : vAt xs tm0 L u m = x.v := by
  rw [vAt_below (p := p + 1) (by omega) (fun q y h1 h2 => h q y (by omega) h2)]
  unfold vAt
  simp [hx, hL, hd]
theorem putA_get {k : Nat} {tm tm' : T AV} {d : Option Tmp} {v : AV} (h : putA k tm d v = some tm') (hk : k ≤ top) (u : Tmp) : tmA tm' u = if d = some u then v else tmA tm u := by
  cases d with
  | none => cases h; simp
  | some t =>
    obtain ⟨h1, h2⟩ := gd_of (show gd (Nat.blt t k) (some (tm.set depth t v)) = some tm' from h)
    cases h2
    have hlt : t < k := by simpa [nblt] using h1
    unfold tmA
    rw [T.get_set' tm v (Nat.le_of_lt (Nat.lt_of_lt_of_le hlt hk)) u]
    by_cases he : u = t
    · subst he; simp
    · rw [if_neg he, if_neg (fun e => he (Option.some.inj e).symm)]
theorem Tra.tm_at (T : Tra n ops xs d0 dE) (hn : n ≤ top) (u : Tmp) : ∀ {p : Nat}, p ≤ xs.length → tmA (dAt xs dE p).tm u = vAt xs d0.tm (fun _ => true) u p
  | 0, _ => by rw [T.first]; rfl
  | p + 1, hp => by
    have ih := T.tm_at hn u (p := p) (by omega)
    have hx : xs[p]? = some xs[p] := by simp
    obtain ⟨h1, h2, h3, _⟩ := T.step p _ hx
    rw [← h2, putA_get h3 hn u, h1, ih]
    conv => rhs; unfold vAt
    rw [hx]
    simp
theorem Tra.vAt_upto (T : Tra n ops xs d0 dE) (hn : n ≤ top) (u : Tmp) {p : Nat} (hp : p ≤ xs.length) : vAt xs d0.tm (fun q => decide (q < p)) u xs.length = tmA (dAt xs dE p).tm u := by
  rw [T.tm_at hn u hp, vAt_below (p := p) hp (fun q x h1 _ _ _ => by simp; omega)]
  exact vAt_congr fun q x hq _ _ => by simp [hq]
theorem vAt_of {tm0 : T AV} {L : Nat → Bool} {u : Tmp} : ∀ {m : Nat}, vAt xs tm0 L u m = tmA tm0 u ∨ ∃ (q : Nat) (x : Stp), q < m ∧ xs[q]? = some x ∧ L q = true ∧ x.t.o.dst = some u ∧ vAt xs tm0 L u m = x.v
  | 0 => .inl rfl
  | m + 1 => by
    unfold vAt
    cases hx : xs[m]? with
    | none =>
      rcases vAt_of (tm0 := tm0) (L := L) (u := u) (m := m) with h | ⟨q, x, h1, h2⟩
      · exact .inl h
      · exact .inr ⟨q, x, by omega, h2⟩
    | some x =>
      simp only
      split
      · rename_i hh
        exact .inr ⟨m, x, by omega, hx, hh.1, hh.2, rfl⟩
      · rcases vAt_of (tm0 := tm0) (L := L) (u := u) (m := m) with h | ⟨q, y, h1, h2⟩
        · exact .inl h
        · exact .inr ⟨q, y, by omega, h2⟩
end
end Go.Ev
