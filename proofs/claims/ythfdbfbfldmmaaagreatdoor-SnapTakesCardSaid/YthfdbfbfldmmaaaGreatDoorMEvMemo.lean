/-
  Calls that were evaluated by themselves stand for what they came to, wherever their blocks are the same.
-/
import Derived.Test.YthfdbfbfldmmaaaGreatDoorMGvRows
import Derived.Test.YthfdbfbfldmmaaaGreatDoorMEvDraw7
import Derived.Test.YthfdbfbfldmmaaaGreatDoorMEvCtl5
set_option linter.unusedVariables false
set_option linter.unusedSimpArgs false
set_option linter.unusedVariables false
set_option linter.unusedSimpArgs false
namespace Go.Ev
open Go.RowKit (Below)
section
variable {B : World} {Fm : Nat → Option Obj} {σ : Sig} {D : Nat → Prop} {s : St} {w : World}
theorem eqEntries_of : ∀ l r : List (AV × AV × Nat), eqEntries l r = true → l = r
  | [], [], _ => rfl
  | [], _ :: _, k => by simp [eqEntries] at k
  | _ :: _, [], k => by simp [eqEntries] at k
  | a :: l, b :: r, k => by
    simp only [eqEntries, Bool.and_eq_true, nbeq, decide_eq_true_eq] at k
    obtain ⟨k1, k2, k3, k4⟩ := k
    obtain ⟨a1, a2, a3⟩ := a
    obtain ⟨b1, b2, b3⟩ := b
    have e1 := eqAV_of _ _ _ k1
    have e2 := eqAV_of _ _ _ k2
    simp only at e1 e2 k3
    rw [e1, e2, k3, eqEntries_of l r k4]
theorem eqAO_of (a b : AO) (h : eqAO a b = true) : a = b := by
  unfold eqAO at h
  split at h
  · rename_i x y
    obtain ⟨c, e, o, f, g⟩ := x
    obtain ⟨c', e', o', f', g'⟩ := y
    simp only [Bool.and_eq_true, nbeq, decide_eq_true_eq, beq_iff_eq] at h
    obtain ⟨h1, h2, h3, h4, h5⟩ := h
    have := allEq_of (eqAV_of 20) _ _ h5
    subst h1 h2 h3 h4 this
    rfl
  · simp only [Bool.and_eq_true, nbeq, decide_eq_true_eq] at h
    rw [h.1, eqEntries_of _ _ h.2]
  · simp only [Bool.and_eq_true, nbeq, decide_eq_true_eq] at h
    obtain ⟨h1, h2, h3, h4⟩ := h
    rw [h1, h2, h3, allEq_of (eqAV_of 20) _ _ h4]
  · rfl
  · rfl
  · cases h
theorem hasAll_of : ∀ {l : List (Nat × AO)}, hasAll s l = true → ∀ p ∈ l, s.h.get p.1 = some p.2
  | [], _, p, hp => by cases hp
  | q :: l, h, p, hp => by
    simp only [hasAll, Bool.and_eq_true] at h
    rcases List.mem_cons.1 hp with rfl | hp
    · cases ho : s.h.get p.1 with
      | none => rw [ho] at h; simp at h
      | some o => rw [ho] at h; rw [eqAO_of _ _ h.1]
    · exact hasAll_of h.2 p hp
theorem keysOk_of : ∀ {l : List (Nat × AO)}, keysOk l = true → ∀ p ∈ l, p.1 ≤ top
  | [], _, p, hp => by cases hp
  | q :: l, h, p, hp => by
    simp only [keysOk, Bool.and_eq_true, nble, decide_eq_true_eq] at h
    rcases List.mem_cons.1 hp with rfl | hp
    · exact h.1
    · exact keysOk_of h.2 p hp
theorem fillT_get : ∀ {l : List (Nat × AO)} {h : T AO}, (∀ p ∈ l, p.1 ≤ top) → ∀ b o, (fillT l h).get b = some o → (b, o) ∈ l ∨ ((∀ p ∈ l, p.1 ≠ b) ∧ h.get b = some o)
  | [], h, _, b, o, k => .inr ⟨by simp, k⟩
  | p :: l, h, hk, b, o, k => by
    rcases fillT_get (l := l) (fun q hq => hk q (by simp [hq])) b o k with k | ⟨k1, k2⟩
    · exact .inl (by simp [k])
    · rw [T.get_set' h p.2 (hk p (by simp)) b] at k2
      by_cases e : b = p.1
      · rw [if_pos e] at k2
        cases k2
        exact .inl (by simp [e])
      · rw [if_neg e] at k2
        refine .inr ⟨fun q hq => ?_, k2⟩
        rcases List.mem_cons.1 hq with rfl | hq
        · exact Ne.symm e
        · exact k1 q hq
theorem goneT_get : ∀ {l : List (Nat × AO)} {h : T AO}, (∀ p ∈ l, p.1 ≤ top) → ∀ b o, (goneT l h).get b = some o → o ≠ .gone → (∀ p ∈ l, p.1 ≠ b) ∧ h.get b = some o
  | [], h, _, b, o, k, _ => ⟨by simp, k⟩
  | p :: l, h, hk, b, o, k, ho => by
    obtain ⟨k1, k2⟩ := goneT_get (l := l) (fun q hq => hk q (by simp [hq])) b o k ho
    rw [T.get_set' h .gone (hk p (by simp)) b] at k2
    by_cases e : b = p.1
    · rw [if_pos e] at k2
      cases k2
      exact absurd rfl ho
    · rw [if_neg e] at k2
      refine ⟨fun q hq => ?_, k2⟩
      rcases List.mem_cons.1 hq with rfl | hq
      · exact Ne.symm e
      · exact k1 q hq
open Classical in
/-- The frame, with all blocks that a call does not start from. -/
noncomputable def beside (Fm : Nat → Option Obj) (σ : Sig) (s : St) (w : World) (pre : List (Nat × AO)) : Nat → Option Obj := fun i =>
  match Fm i with
  | some o => some o
  | none => if ∃ b, alive s b ∧ (∀ p ∈ pre, p.1 ≠ b) ∧ (σ b).b = i then w.heap[i]? else none
theorem memo_sound {k : Nat} {F : Fns} (hS : Sound k F) {m : Memo} (hm : memoOk m (F.call m.f m.args (memoSt m)) = true) {args : List AV} {p : AV × St} (h : memoA m args s = some p) (g : Good B Fm σ D s w) (ho : OnL D args) :
    CallsIn Fence.wide 0 PP m.f (concL σ args).toArray w (Ret B Fm σ D p) := by
  (have ⟨h1, hNew⟩ := gd_of h; replace h := hNew; clear hNew)
  cases h
  simp only [Bool.and_eq_true, nbeq, decide_eq_true_eq] at h1
  obtain ⟨hnx, hargs, hpre⟩ := h1
  have hargs := allEq_of (eqAV_of 20) _ _ hargs
  subst hargs
  have hpre := hasAll_of hpre
  cases hc : F.call m.f m.args (memoSt m) with
  | none => rw [hc] at hm; cases hm
  | some r =>
    obtain ⟨v, s1⟩ := r
    rw [hc] at hm
    simp only [memoOk, Bool.and_eq_true, nbeq, decide_eq_true_eq] at hm
    obtain ⟨hv, hnx', hk1, hk2, hpost⟩ := hm
    have hv := eqAV_of _ _ _ hv
    have hk1 := keysOk_of hk1
    have hk2 := keysOk_of hk2
    have hpost := hasAll_of hpost
    subst hv
    have hsub : ∀ b o, (memoSt m).h.get b = some o → (b, o) ∈ m.pre ∧ s.h.get b = some o := by
      intro b o hb
      rcases fillT_get hk1 b o hb with h | ⟨_, h⟩
      · exact ⟨h, hpre _ h⟩
      · cases h
    have hal : ∀ b, alive (memoSt m) b → alive s b ∧ ∃ p ∈ m.pre, p.1 = b := by
      rintro b ⟨o, h1, h2⟩
      obtain ⟨k1, k2⟩ := hsub b o h1
      exact ⟨⟨o, k2, h2⟩, (b, o), k1, rfl⟩
    have hfm : ∀ i o, Fm i = some o → beside Fm σ s w m.pre i = some o := fun i o hi => by unfold beside; rw [hi]
    have hside : ∀ b, alive s b → (∀ p ∈ m.pre, p.1 ≠ b) → beside Fm σ s w m.pre (σ b).b = w.heap[(σ b).b]? := by
      intro b hb hn
      unfold beside
      rw [g.apart b hb]
      simp only
      rw [if_pos ⟨b, hb, hn, rfl⟩]
    have g0 : Good B (beside Fm σ s w m.pre) σ D (memoSt m) w := by
      refine ⟨g.os, g.tape, g.output, g.most, by show m.nx ≤ top; rw [← hnx]; exact g.lim, fun b hb => by show b < m.nx; rw [← hnx]; exact g.below b hb, fun b o h1 h2 => g.heap b o (hsub b o h1).2 h2,
        fun b c hb hc he => g.inj b c (hal b hb).1 (hal c hc).1 he, g.size, fun i o hi => ?_, fun b hb => ?_⟩
      · unfold beside at hi
        split at hi
        · rename_i o' ho'
          cases hi
          exact g.frame i _ ho'
        · split at hi
          · exact hi
          · cases hi
      · obtain ⟨h1, q, h2, h3⟩ := hal b hb
        unfold beside
        rw [g.apart b h1]
        simp only
        rw [if_neg]
        rintro ⟨b', k1, k2, k3⟩
        have := g.inj b' b k1 h1 k3
        subst this
        exact k2 q h2 h3
    refine (hS.call hc g0 ho).mono fun e w' he => ?_
    obtain ⟨σ', D', rfl, g1, x1, ov⟩ := he
    refine ⟨σ', D', rfl, ?_, x1, ov⟩
    have hold : ∀ b o, (goneT m.pre s.h).get b = some o → o ≠ .gone → alive s b ∧ s.h.get b = some o ∧ D b ∧ ∃ ob, w'.heap[(σ' b).b]? = some ob ∧ ORel σ' D' (σ' b) o ob ∧ beside Fm σ s w m.pre (σ' b).b = some ob ∧ σ' b = σ b := by
      intro b o hb hne
      obtain ⟨k1, k2⟩ := goneT_get hk1 b o hb hne
      have ha : alive s b := ⟨o, k2, hne⟩
      obtain ⟨d1, ob, d2, d3⟩ := g.heap b o k2 hne
      have hs := x1.same b d1
      have hb2 := hside b ha k1
      rw [d2] at hb2
      refine ⟨ha, k2, d1, ob, ?_, ?_, ?_, hs⟩
      · rw [hs]; exact g1.frame _ _ hb2
      · rw [hs]; exact x1.orel d3
      · rw [hs]; exact hb2
    have hget : ∀ b o, (⟨fillT m.post (goneT m.pre s.h), m.nx'⟩ : St).h.get b = some o → o ≠ .gone → (b, o) ∈ m.post ∨ (goneT m.pre s.h).get b = some o := by
      intro b o hb _
      exact (fillT_get hk2 b o hb).imp id fun h => h.2
    have hcase : ∀ b, alive (⟨fillT m.post (goneT m.pre s.h), m.nx'⟩ : St) b → alive s1 b ∨ ∃ o, (goneT m.pre s.h).get b = some o ∧ o ≠ .gone := by
      rintro b ⟨o, h1, h2⟩
      rcases hget b o h1 h2 with h | h
      · exact .inl ⟨o, hpost _ h, h2⟩
      · exact .inr ⟨o, h, h2⟩
    refine ⟨g1.os, g1.tape, g1.output, g1.most, by show m.nx' ≤ top; rw [← hnx']; exact g1.lim, fun b hb => by show b < m.nx'; rw [← hnx']; exact g1.below b hb, fun b o h1 h2 => ?_, fun b c hb hc he => ?_, g1.size, fun i o hi => g1.frame i o (hfm i o hi), fun b hb => ?_⟩
    · rcases hget b o h1 h2 with h | h
      · exact g1.heap b o (hpost _ h) h2
      · obtain ⟨_, _, d, ob, k1, k2, _⟩ := hold b o h h2
        exact ⟨x1.sub b d, ob, k1, k2⟩
    · rcases hcase b hb with h | ⟨o, h, h'⟩ <;> rcases hcase c hc with q | ⟨o', q, q'⟩
      · exact g1.inj b c h q he
      · obtain ⟨_, _, _, ob, _, _, k3, _⟩ := hold c o' q q'
        have := g1.apart b h
        rw [he, k3] at this
        cases this
      · obtain ⟨_, _, _, ob, _, _, k3, _⟩ := hold b o h h'
        have := g1.apart c q
        rw [← he, k3] at this
        cases this
      · obtain ⟨a1, _, _, ob, _, _, _, k4⟩ := hold b o h h'
        obtain ⟨a2, _, _, ob', _, _, _, k4'⟩ := hold c o' q q'
        rw [k4, k4'] at he
        exact g.inj b c a1 a2 he
    · rcases hcase b hb with h | ⟨o, h, h'⟩
      · have := g1.apart b h
        cases hf : Fm (σ' b).b with
        | none => rfl
        | some o => rw [hfm _ _ hf] at this; cases this
      · obtain ⟨a1, _, _, ob, _, _, _, k4⟩ := hold b o h h'
        rw [k4]
        exact g.apart b a1
def MemosOk (ms : List Memo) : Prop := ∀ m ∈ ms, ∀ {B : World} {Fm : Nat → Option Obj} {σ : Sig} {D : Nat → Prop} {s : St} {w : World} {args : List AV} {p : AV × St},
  memoA m args s = some p → Good B Fm σ D s w → OnL D args → CallsIn Fence.wide 0 PP m.f (concL σ args).toArray w (Ret B Fm σ D p)
theorem memosA_of {ms : List Memo} (hms : MemosOk ms) {f : FuncId} {args : List AV} {p : AV × St} (h : memosA f args s ms = some p) (g : Good B Fm σ D s w) (ho : OnL D args) :
    CallsIn Fence.wide 0 PP f (concL σ args).toArray w (Ret B Fm σ D p) := by
  induction ms with
  | nil => cases h
  | cons m ms ih =>
    have ih := ih (fun m' hm' => hms m' (by simp [hm']))
    unfold memosA at h
    cases e : Nat.beq f m.f with
    | false => rw [e, ifB_false] at h; exact ih h
    | true =>
      rw [e, ifB_true] at h
      have e := Nat.eq_of_beq_eq_true e
      subst e
      split at h
      · rename_i r hr
        cases h
        exact hms m (by simp) hr g ho
      · exact ih h
theorem memosNil : MemosOk [] := fun m hm => by cases hm
theorem MemosOk.cons {k : Nat} {F : Fns} (hS : Sound k F) {m : Memo} {ms : List Memo} (hm : memoOk m (F.call m.f m.args (memoSt m)) = true) (hms : MemosOk ms) : MemosOk (m :: ms) := by
  intro m' hm' B Fm σ D s w args p h g ho
  rcases List.mem_cons.1 hm' with rfl | hm'
  · exact memo_sound hS hm h g ho
  · exact hms m' hm' h g ho
end
end Go.Ev
