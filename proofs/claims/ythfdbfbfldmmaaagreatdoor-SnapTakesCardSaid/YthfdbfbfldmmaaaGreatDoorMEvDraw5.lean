/-
  Open regions: in whatever order, the same.
-/
import Derived.Test.YthfdbfbfldmmaaaGreatDoorMEvDraw4
set_option linter.unusedVariables false
set_option linter.unusedSimpArgs false
set_option linter.unusedVariables false
set_option linter.unusedSimpArgs false
namespace Go.Ev
open Go.RowKit (Below)
section
variable {B : World} {σ : Sig} {D : Nat → Prop} {s : St} {w : World}
theorem EvOk.of_slots {tm : T AV} {a : Act} {xs : List Operand} (h : ∀ t, Operand.tmp t ∈ xs → a.tmps.getD t undef = conc σ (tmA tm t) ∧ On D (tmA tm t)) : EvOk σ D tm a xs := by
  intro x hx v hv
  cases x with
  | tmp t =>
    cases hv
    have := h t hx
    refine ⟨?_, this.2⟩
    rw [← this.1]
    rfl
  | const c =>
    have ht : Tm σ D 0 .nil ({ tmps := #[], defers := [] } : Act).tmps := ⟨rfl, by decide, fun t => by simp [tmA, T.get, undefA, conc, concL, undef], fun t => by simp [tmA, T.get, undefA, On, OnL]⟩
    exact ev_of (a := { tmps := #[], defers := [] }) (x := .const c) ht hv
  | func f =>
    have ht : Tm σ D 0 .nil ({ tmps := #[], defers := [] } : Act).tmps := ⟨rfl, by decide, fun t => by simp [tmA, T.get, undefA, conc, concL, undef], fun t => by simp [tmA, T.get, undefA, On, OnL]⟩
    exact ev_of (a := { tmps := #[], defers := [] }) (x := .func f) ht hv
  | global g => cases hv
theorem wanted_slots {tm : T AV} {a : Act} (ops : Array Oper) (o : Oper) (h : ∀ j want oj d, o.guard = some (j, want) → ops.toList[j]? = some oj → oj.dst = some d → a.tmps.getD d undef = conc σ (tmA tm d)) :
    Region.wanted o (yielded ops a.tmps) = wantedA ops.toList tm o.guard := by
  unfold Region.wanted wantedA
  cases hg : o.guard with
  | none => rfl
  | some p =>
    obtain ⟨j, want⟩ := p
    simp only [nth_eq, Array.getElem?_toList, yielded]
    cases hj : ops[j]? with
    | none => simp
    | some oj =>
      simp only [Option.bind_some]
      cases hd : oj.dst with
      | none => simp
      | some d =>
        simp only [Option.bind_some]
        have hval := h j want oj d hg (by rw [Array.getElem?_toList]; exact hj) hd
        cases hs : a.tmps[d]? with
        | none =>
          simp only
          split
          · rename_i b hb
            rw [hb] at hval
            simp [hs, conc, undef] at hval
          · simp
        | some v =>
          have hv : v = conc σ (tmA tm d) := by simpa [hs] using hval
          subst hv
          split
          · rename_i b hb
            have := conc_bool (Option.some.inj hb)
            rw [this]
            simp
          · rename_i hnb
            split
            · rename_i b hb
              exact absurd (by rw [hb]; simp [conc]) (hnb b)
            · simp
end
section
variable {B : World} {Fm : Nat → Option Obj} {σ0 : Sig} {D0 : Nat → Prop} {n : Nat} {ops : Array Oper} {xs : List Stp} {d0 dE : Dr} {a0 : Act}
def nxAt (xs : List Stp) (dE : Dr) (p : Nat) : Nat := (dAt xs dE p).s.nx
structure Inv (B : World) (Fm : Nat → Option Obj) (σ0 : Sig) (D0 : Nat → Prop) (n : Nat) (ops : Array Oper) (xs : List Stp) (d0 dE : Dr) (a0 : Act)
    (listed : Array Bool) (c : Nat) (σ : Sig) (D : Nat → Prop) (F : Nat → Option Obj) (a : Act) (w : World) : Prop where
  size : listed.size = ops.size
  closed : Closed ops listed
  cle : c ≤ xs.length
  pds : (dAt xs dE c).pds = []
  done : ∀ (q : Nat) (x : Stp), q < c → xs[q]? = some x → listed.getD x.t.i false = true
  quiet : ∀ (q : Nat) (x : Stp), c ≤ q → xs[q]? = some x → listed.getD x.t.i false = true → x.k.eff = false
  good : Good B F σ (fun b => D b ∧ b < nxAt xs dE c) (dAt xs dE c).s w
  ext : Ext σ0 D0 σ D
  dom : ∀ b, D b → b < nxAt xs dE c ∨ ∃ (q : Nat) (x : Stp) (ob : AO), c ≤ q ∧ xs[q]? = some x ∧ listed.getD x.t.i false = true ∧ x.k = .mk ob ∧ b = nxAt xs dE q
  sub : ∀ i o, Fm i = some o → F i = some o
  early : ∀ (q : Nat) (x : Stp) (ob : AO), c ≤ q → xs[q]? = some x → listed.getD x.t.i false = true → x.k = .mk ob →
    D (nxAt xs dE q) ∧ ∃ obj, F (σ (nxAt xs dE q)).b = some obj ∧ Fm (σ (nxAt xs dE q)).b = none ∧ ORel σ (fun b => D b ∧ b < nxAt xs dE (q + 1)) (σ (nxAt xs dE q)) ob obj
  apart : ∀ (q : Nat) (x : Stp) (ob : AO) (q' : Nat) (x' : Stp) (ob' : AO), c ≤ q → xs[q]? = some x → listed.getD x.t.i false = true → x.k = .mk ob →
    c ≤ q' → xs[q']? = some x' → listed.getD x'.t.i false = true → x'.k = .mk ob' → (σ (nxAt xs dE q)).b = (σ (nxAt xs dE q')).b → q = q'
  tsize : a.tmps.size = n
  defers : a.defers = a0.defers
  slot : ∀ u, a.tmps.getD u undef = conc σ (vAt xs d0.tm (Lof xs listed) u xs.length)
  on : ∀ (q : Nat) (x : Stp), xs[q]? = some x → listed.getD x.t.i false = true → On (fun b => D b ∧ b < nxAt xs dE (q + 1)) x.v
structure Pre (D0 : Nat → Prop) (n : Nat) (ops : Array Oper) (xs : List Stp) (d0 dE : Dr) : Prop where
  T : Tra n ops xs d0 dE
  lim : n ≤ top
  nx : ∀ b, D0 b → b < d0.s.nx
  on0 : ∀ u, On D0 (tmA d0.tm u)
  top : dE.s.nx ≤ Go.Ev.top
variable {listed : Array Bool} {c : Nat} {σ : Sig} {D : Nat → Prop} {F : Nat → Option Obj} {a : Act} {w : World}
theorem Pre.nx0 (P : Pre D0 n ops xs d0 dE) {b : Nat} (h : D0 b) (p : Nat) : b < nxAt xs dE p := by
  have h1 := P.nx b h
  have h2 := P.T.nx_mono (Nat.zero_le p)
  rw [P.T.first] at h2
  unfold nxAt
  omega
theorem Pre.nxTop (P : Pre D0 n ops xs d0 dE) {p : Nat} (h : p ≤ xs.length) : nxAt xs dE p ≤ Go.Ev.top := by
  have h2 := P.T.nx_mono h
  rw [dAt_end] at h2
  have := P.top
  unfold nxAt
  omega
def Upto (xs : List Stp) (dE : Dr) (D : Nat → Prop) (p : Nat) : Nat → Prop := fun b => D b ∧ b < nxAt xs dE p
theorem Inv.locs (I : Inv B Fm σ0 D0 n ops xs d0 dE a0 listed c σ D F a w) {b : Nat} (h : D b) : (σ b).b < w.heap.size := by
  rcases I.dom b h with h1 | ⟨q, x, ob, h1, h2, h3, h4, rfl⟩
  · exact I.good.size b ⟨h, h1⟩
  · obtain ⟨_, obj, k1, _⟩ := I.early q x ob h1 h2 h3 h4
    exact (Array.getElem?_eq_some_iff.1 (I.good.frame _ _ k1)).1
theorem Inv.goodAt (P : Pre D0 n ops xs d0 dE) (I : Inv B Fm σ0 D0 n ops xs d0 dE a0 listed c σ D F a w) {p : Nat} (hp : c ≤ p) (hl : p ≤ xs.length) :
    Good B F σ (Upto xs dE D p) ⟨(dAt xs dE c).s.h, nxAt xs dE p⟩ w :=
  I.good.grow (fun _ hb => ⟨hb.1, Nat.lt_of_lt_of_le hb.2 (P.T.nx_mono hp)⟩) (P.nxTop hl) (fun _ hb => hb.2) (fun _ hb => I.locs hb.1)
theorem Inv.slots (P : Pre D0 n ops xs d0 dE) (I : Inv B Fm σ0 D0 n ops xs d0 dE a0 listed c σ D F a w) {p : Nat} {x : Stp} (hx : xs[p]? = some x) (hl : listed.getD x.t.i false = false)
    (hm : ∀ j, bit x.t.m j = true → listed.getD j false = true) {u : Tmp} (hu : u ∈ names ops.toList x.t.o) : a.tmps.getD u undef = conc σ (tmA x.d.tm u) ∧ On (Upto xs dE D p) (tmA x.d.tm u) := by
  have hp : p < xs.length := (List.getElem?_eq_some_iff.1 hx).1
  have e := P.T.vAt_now P.lim I.closed hx hl hm hu
  refine ⟨by rw [I.slot u, e], ?_⟩
  rw [(P.T.step p x hx).1, P.T.tm_at P.lim u (Nat.le_of_lt hp)]
  rcases vAt_of (xs := xs) (tm0 := d0.tm) (L := fun _ => true) (u := u) (m := p) with h | ⟨q, y, h1, h2, _, h3, h4⟩
  · rw [h]
    exact on_mono (fun b hb => ⟨I.ext.sub b hb, P.nx0 hb p⟩) _ (P.on0 u)
  · rw [h4]
    have hly : listed.getD y.t.i false = true := by rw [P.T.order I.closed hx h2 (by omega) hl hm h3 hu]; simp [h1]
    exact on_mono (fun b hb => ⟨hb.1, Nat.lt_of_lt_of_le hb.2 (P.T.nx_mono (by omega))⟩) _ (I.on q y h2 hly)
theorem Inv.evOk (P : Pre D0 n ops xs d0 dE) (I : Inv B Fm σ0 D0 n ops xs d0 dE a0 listed c σ D F a w) {p : Nat} {x : Stp} (hx : xs[p]? = some x) (hl : listed.getD x.t.i false = false)
    (hm : ∀ j, bit x.t.m j = true → listed.getD j false = true) : EvOk σ (Upto xs dE D p) x.d.tm a x.t.o.op.operands.toList :=
  EvOk.of_slots fun t ht => I.slots P hx hl hm (by
    unfold names
    rw [List.append_assoc, List.mem_append]
    exact .inl (List.mem_filterMap.2 ⟨.tmp t, ht, rfl⟩))
theorem Inv.wanted (P : Pre D0 n ops xs d0 dE) (I : Inv B Fm σ0 D0 n ops xs d0 dE a0 listed c σ D F a w) {p : Nat} {x : Stp} (hx : xs[p]? = some x) (hl : listed.getD x.t.i false = false)
    (hm : ∀ j, bit x.t.m j = true → listed.getD j false = true) : Region.wanted x.t.o (yielded ops a.tmps) = wantedA ops.toList x.d.tm x.t.o.guard :=
  wanted_slots (σ := σ) ops x.t.o fun j want oj d hg hj hd => (I.slots P hx hl hm (by
    unfold names
    rw [List.mem_append, List.mem_append]
    refine .inl (.inr ?_)
    rw [hg]
    simp only [nth_eq, hj, hd]
    simp)).1
theorem Inv.slot_add (P : Pre D0 n ops xs d0 dE) (I : Inv B Fm σ0 D0 n ops xs d0 dE a0 listed c σ D F a w) {σ' : Sig} (hσ : ∀ b, D b → σ' b = σ b) {p : Nat} {x : Stp} (hx : xs[p]? = some x) (hl : listed.getD x.t.i false = false)
    (hi : x.t.i < listed.size) (hm : ∀ j, bit x.t.m j = true → listed.getD j false = true) :
    (a.put x.t.o.dst (conc σ' x.v)).tmps.size = n ∧ (a.put x.t.o.dst (conc σ' x.v)).defers = a0.defers ∧
    ∀ u, (a.put x.t.o.dst (conc σ' x.v)).tmps.getD u undef = conc σ' (vAt xs d0.tm (Lof xs (listed.setIfInBounds x.t.i true)) u xs.length) := by
  have hput := (P.T.step p x hx).2.2.1
  have hold : ∀ u, conc σ' (vAt xs d0.tm (Lof xs listed) u xs.length) = conc σ (vAt xs d0.tm (Lof xs listed) u xs.length) := by
    intro u
    refine conc_congr (D := D) hσ _ ?_
    rcases vAt_of (xs := xs) (tm0 := d0.tm) (L := Lof xs listed) (u := u) (m := xs.length) with h | ⟨q, y, _, h2, h5, _, h4⟩
    · rw [h]; exact on_mono I.ext.sub _ (P.on0 u)
    · rw [h4]
      rw [Lof_at h2] at h5
      exact on_mono (fun b hb => hb.1) _ (I.on q y h2 h5)
  cases hd : x.t.o.dst with
  | none =>
    refine ⟨I.tsize, I.defers, fun u => ?_⟩
    rw [P.T.vAt_add I.closed hx hi hl hm u, hd, if_neg (by simp), hold u]
    exact I.slot u
  | some t =>
    rw [hd] at hput
    obtain ⟨h1, h2⟩ := gd_of (show gd (Nat.blt t n) (some (x.d.tm.set depth t x.v)) = some x.d'.tm from hput)
    have hlt : t < n := by simpa [nblt] using h1
    refine ⟨by simp [Act.put, I.tsize], I.defers, fun u => ?_⟩
    rw [P.T.vAt_add I.closed hx hi hl hm u, hd]
    by_cases e : t = u
    · subst e
      have := I.tsize
      simp [Act.put, this, hlt]
    · rw [if_neg (fun h => e (Option.some.inj h)), hold u, ← I.slot u]
      simp [Act.put, Array.getElem?_setIfInBounds_ne e]
end
end Go.Ev
