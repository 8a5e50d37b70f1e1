/-
  append, whole; copy.
-/
import Derived.Test.YthfdbfbfldmmaaaGreatDoorMEvOps8
set_option linter.unusedVariables false
set_option linter.unusedSimpArgs false
set_option linter.unusedVariables false
set_option linter.unusedSimpArgs false
namespace Go.Ev
open Go.RowKit (Below)
section
variable {B : World} {F : Nat → Option Obj} {σ : Sig} {D : Nat → Prop} {s : St} {w : World}
theorem Good.adopt (g : Good B F σ D s w) {b b' : Nat} (ha : alive s b) {o : AO} {ob : Obj} {s' : St} {w' : World} (h : (s.put b .gone).new o = some (b', s'))
    (hr : ORel (upd σ s.nx (σ b)) (plus D s.nx) (σ b) o ob)
    (ho : w'.os = w.os) (ht : w'.tape = w.tape) (hp : w'.output = w.output) (hsz : w'.heap.size = w.heap.size)
    (hb : w'.heap[(σ b).b]? = some ob) (hoth : ∀ i, i ≠ (σ b).b → w'.heap[i]? = w.heap[i]?) :
    ∃ σ' D', Ext σ D σ' D' ∧ σ' b' = σ b ∧ D' b' ∧ Good B F σ' D' s' w' := by
  have hD : D b := by obtain ⟨q, hq, hne⟩ := ha; exact (g.heap b q hq hne).1
  have hbt : b ≤ top := by have := g.below b hD; have := g.lim; omega
  obtain ⟨htop, hb', hs'⟩ := new_of h
  have hnx : (s.put b .gone).nx = s.nx := rfl
  rw [hnx] at htop hb' hs'
  subst hb' hs'
  have hext : Ext σ D (upd σ s.nx (σ b)) (plus D s.nx) := ext_upd g.fresh
  have hold : ∀ c, D c → c ≠ s.nx := fun c hc e => g.fresh (e ▸ hc)
  have hget : ∀ c, (⟨(s.put b .gone).h.set depth s.nx o, s.nx + 1⟩ : St).h.get c = if c = s.nx then some o else if c = b then some .gone else s.h.get c := by
    intro c
    rw [show (⟨(s.put b .gone).h.set depth s.nx o, s.nx + 1⟩ : St).h.get c = if c = s.nx then some o else (s.put b .gone).h.get c from T.get_set' _ _ (by omega) c, get_put .gone hbt c]
  have hal : ∀ c, alive ⟨(s.put b .gone).h.set depth s.nx o, s.nx + 1⟩ c → c = s.nx ∨ (c ≠ s.nx ∧ c ≠ b ∧ alive s c) := by
    rintro c ⟨q, hq, hne⟩
    rw [hget] at hq
    by_cases hc : c = s.nx
    · exact .inl hc
    · rw [if_neg hc] at hq
      by_cases hcb : c = b
      · rw [if_pos hcb] at hq; cases hq; exact absurd rfl hne
      · rw [if_neg hcb] at hq
        exact .inr ⟨hc, hcb, q, hq, hne⟩
  have hin : ∀ c, alive s c → D c := fun c ⟨q, hq, hne⟩ => (g.heap c q hq hne).1
  refine ⟨_, _, hext, upd_same _ _ _, .inr rfl, ho.trans g.os, ht.trans g.tape, hp.trans g.output, by rw [hsz]; exact g.most, htop, ?_, ?_, ?_, ?_, ?_, ?_⟩
  · rintro c (hc | rfl)
    · have := g.below c hc; simp only; omega
    · simp only; omega
  · intro c q hq hne
    rw [hget] at hq
    by_cases hc : c = s.nx
    · subst hc
      rw [if_pos rfl] at hq
      cases hq
      refine ⟨.inr rfl, ob, ?_, ?_⟩
      · rw [upd_same]; exact hb
      · rw [upd_same]; exact hr
    · rw [if_neg hc] at hq
      by_cases hcb : c = b
      · rw [if_pos hcb] at hq; cases hq; exact absurd rfl hne
      · rw [if_neg hcb] at hq
        obtain ⟨hd, ob', h1, h2⟩ := g.heap c q hq hne
        rw [upd_other _ _ hc]
        refine ⟨.inl hd, ob', ?_, hext.orel h2⟩
        rw [hoth _ (fun e => hcb (g.inj c b ⟨q, hq, hne⟩ ha e))]
        exact h1
  · intro c d hc hd he
    rcases hal c hc with rfl | ⟨hc1, hcb, hc2⟩ <;> rcases hal d hd with rfl | ⟨hd1, hdb, hd2⟩
    · rfl
    · rw [upd_same, upd_other _ _ hd1] at he
      exact absurd (g.inj b d ha hd2 he).symm hdb
    · rw [upd_same, upd_other _ _ hc1] at he
      exact absurd (g.inj c b hc2 ha he) hcb
    · rw [upd_other _ _ hc1, upd_other _ _ hd1] at he
      exact g.inj c d hc2 hd2 he
  · rintro c (hc | rfl)
    · rw [upd_other _ _ (hold c hc), hsz]
      exact g.size c hc
    · rw [upd_same, hsz]; exact g.size b hD
  · intro i q hq
    have h1 := g.frame i q hq
    rw [hoth i (fun e => ?_)]
    · exact h1
    · have := g.apart b ha
      rw [← e, hq] at this
      cases this
  · intro c hc
    rcases hal c hc with rfl | ⟨hc1, _, hc2⟩
    · rw [upd_same]; exact g.apart b ha
    · rw [upd_other _ _ hc1]; exact g.apart c hc2
theorem drew_good (g : Good B F σ D s w) : Good B F σ D s w.drew := g.world rfl rfl rfl rfl
theorem appendA_of {t xt ty : TypeId} {x y : AV} {p : AV × St} (g : Good B F σ D s w) (h : appendA s t xt x y = some p) (hx : On D x) :
    Res B F σ D w (Builtin.append_ #[t, xt] ty #[conc σ x, conc σ y]) p.1 p.2 := by
  (have ⟨e, h1, hNew⟩ := oB_of h; replace h := hNew; clear hNew)
  (have ⟨d, h2, hNew⟩ := oB_of h; replace h := hNew; clear hNew)
  (have ⟨h3, hNew⟩ := gd_of h; replace h := hNew; clear hNew)
  (have ⟨z, h4, hNew⟩ := oB_of h; replace h := hNew; clear hNew)
  (have ⟨h5, hNew⟩ := gd_of h; replace h := hNew; clear hNew)
  (have ⟨by_, h6, hNew⟩ := oB_of h; replace h := hNew; clear hNew)
  (have ⟨n, h7, hNew⟩ := oB_of h; replace h := hNew; clear hNew)
  (have ⟨new, h8, hNew⟩ := oB_of h; replace h := hNew; clear hNew)
  have hu := uSlice_of h1
  have hi : isInt xt = false := by simpa using h3
  have hz0 : 0 < z := by simpa [nblt] using h5
  have hn := srcLen_of (σ := σ) h7 w
  obtain ⟨hnew, hnon, hnl⟩ := srcCells_of g h8
  obtain ⟨hnew', _, _⟩ := srcCells_of (drew_good g) h8
  have hnl := hnl h7
  -- the row grows
  have grow : ∀ (base : Option Addr) (sLen sCap fz : Nat) (sg : Bool) (old : List AV) (s1 : St), Good B F σ D s1 w.drew → ¬ sLen + n ≤ sCap → fitsA e z by_ (sLen + n) = true →
      (Builtin.firstCells z sLen (.slice base sLen sCap)).run PP w.drew = .ok (concL σ old).toArray w.drew → old.length = sLen * z → OnL D old →
      grownA s1 e z (sLen + n) (old ++ new) fz sg = some p → Res B F σ D w (Builtin.append_ #[t, xt] ty #[.slice base sLen sCap, conc σ y]) p.1 p.2 := by
    intro base sLen sCap fz sg old s1 g1 hroom hfit hold hol hoo hgr
    obtain ⟨arr, cap, q1, q2, q3⟩ := append_grow (ty := ty) hu h4 h6 h2 hi hn hroom hfit hold hnew' hol hnl
    obtain ⟨σ', D', k1, k2, k3, k4⟩ := grownA_of g1 hgr hz0 (onL_append.2 ⟨hoo, hnon⟩) arr cap q2 q3
    refine ⟨σ', D', _, ?_, k4, k1, k2⟩
    rw [q1, k3]
    rfl
  unfold appTo at h
  split at h
  · -- nil
    cases n with
    | zero =>
      cases h
      have hl : new = [] := List.length_eq_zero_iff.1 (by rw [hnl]; simp)
      refine ⟨σ, D, w, ?_, g, Ext.refl _ _, by simp [On]⟩
      rw [show conc σ AV.nils = .slice none 0 0 by simp [conc]]
      exact append_room (ty := ty) (base := none) (w' := w) hu h4 h2 hi hn hnew (by omega) (fun a e => by cases e) (fun _ => rfl)
    | succ n =>
      replace h : gd (fitsA e z by_ (n + 1)) (grownA s e z (n + 1) new 0 false) = some p := h
      (have ⟨hf, hNew⟩ := gd_of h; replace h := hNew; clear hNew)
      rw [show conc σ AV.nils = .slice none 0 0 by simp [conc]]
      refine grow none 0 0 0 false [] s (drew_good g) (by omega) (by simpa using hf) (by simp [Builtin.firstCells, concL]) (by simp) (by simp [OnL]) (by simpa using h)
  · -- known
    rename_i b off len c
    unfold appKnown at h
    cases hr : Nat.ble (len + n) c with
    | true =>
      rw [hr, ifB_true] at h
      (have ⟨s1, h9, hNew⟩ := oB_of h; replace h := hNew; clear hNew)
      cases h
      obtain ⟨w', k1, k2, _⟩ := g.write h9 hnon
      refine ⟨σ, D, w', ?_, k2, Ext.refl _ _, hx⟩
      simp only [conc]
      refine append_room (ty := ty) (base := some _) hu h4 h2 hi hn hnew (by simpa [nble] using hr) (fun a ea => ?_) (fun e => by cases e)
      cases ea
      rw [add_at]
      exact k1
    | false =>
      rw [hr, ifB_false] at h
      (have ⟨hf, hNew⟩ := gd_of h; replace h := hNew; clear hNew)
      (have ⟨old, ho, hNew⟩ := oB_of h; replace h := hNew; clear hNew)
      rw [appL_eq] at h
      obtain ⟨o1, o2, o3⟩ := srcCells_of (drew_good g) ho
      simp only [conc] at o1 ⊢
      exact grow _ len c 0 false old s (drew_good g) (by simpa [nble] using hr) hf o1 (o3 rfl) o2 h
  · -- open
    rename_i b len z'
    unfold appOpen at h
    (have ⟨hz', hNew⟩ := gd_of h; replace h := hNew; clear hNew)
    have hz' : z' = z := by simpa [nbeq] using hz'
    subst hz'
    cases hr : Nat.ble (len + n) (atLeast s b 0 z') with
    | true =>
      rw [hr, ifB_true] at h
      (have ⟨s1, h9, hNew⟩ := oB_of h; replace h := hNew; clear hNew)
      cases h
      obtain ⟨w', k1, k2, _⟩ := g.write h9 hnon
      refine ⟨σ, D, w', ?_, k2, Ext.refl _ _, hx⟩
      have hle := atLeast_le g b 0 z'
      have hr' : len + n ≤ atLeast s b 0 z' := by simpa [nble] using hr
      simp only [conc]
      refine append_room (ty := ty) (base := some _) hu h4 h2 hi hn hnew (by omega) (fun a ea => ?_) (fun e => by cases e)
      cases ea
      rw [add_at, Nat.zero_add]
      exact k1
    | false =>
      rw [hr, ifB_false] at h
      (have ⟨r, hrow, hNew⟩ := oB_of h; replace h := hNew; clear hNew)
      (have ⟨hg, hNew⟩ := gd_of h; replace h := hNew; clear hNew)
      (have ⟨old, ho, hNew⟩ := oB_of h; replace h := hNew; clear hNew)
      rw [appL_eq] at h
      simp only [Bool.and_eq_true, nbeq, nble, decide_eq_true_eq, allL_eq, List.all_eq_true] at hg
      obtain ⟨⟨⟨⟨hopn, he⟩, hfit⟩, hfz⟩, hone⟩ := hg
      obtain ⟨hD, c, fr, hheap, hrel⟩ := g.row hrow
      obtain ⟨_, hsz, hle, hcl, hcells, hon', hfro, hsg⟩ := hrel
      obtain ⟨l1, l2, l3⟩ := g.loads hrow ho
      obtain ⟨l1', _, _⟩ := (drew_good g).loads hrow ho
      have hbt : b ≤ top := by have := g.below b hD; have := g.lim; omega
      rw [show conc σ (AV.sl b 0 len (.op z')) = .slice (some ⟨(σ b).b, 0, none⟩) len (capOf σ b 0 z') by simp only [conc]]
      by_cases hroom : len + n ≤ capOf σ b 0 z'
      · -- in its place
        have hfits : (len + n) * z' ≤ (σ b).n := by
          have := Nat.mul_le_mul_right z' hroom
          have h2 : capOf σ b 0 z' * z' ≤ (σ b).n := by
            unfold capOf
            simpa using Nat.div_mul_le_self ((σ b).n - 0) z'
          omega
        have hmul : (len + n) * z' = len * z' + n * z' := Nat.add_mul _ _ _
        have hst := run_storeRow (σ b).b (len * z') r.e fr (concL σ new) 0 c w hheap
          (fun j ha hb => by
            rw [concL_length, hnl] at hb
            rintro ⟨x, y⟩
            have := hfro j (by omega) x y
            omega)
          (by rw [concL_length, hnl]; omega)
          (fun v hv => by
            rw [concL_eq, List.mem_map] at hv
            obtain ⟨x, hx, rfl⟩ := hv
            rw [one_conc]; exact hone x hx)
        simp only [Nat.add_zero] at hst
        (have ⟨q, hq, hNew⟩ := oB_of h; replace h := hNew; clear hNew)
        cases h
        obtain ⟨b', s'⟩ := q
        have hext : Ext σ D (upd σ s.nx (σ b)) (plus D s.nx) := ext_upd g.fresh
        have hlen0 : len * z' ≤ c.toList.length := by simp; omega
        have hpre : c.toList.take (len * z') = concL σ old := by
          obtain ⟨_, c2, rfl⟩ := (cut_some _ _ _ _).1 ho
          apply List.ext_getElem?
          intro i
          rw [List.getElem?_take]
          rw [concL_eq, List.getElem?_map, List.drop_zero, List.getElem?_take]
          split
          · rename_i hi
            have hi2 : i < r.c.length := by omega
            have := hcells i r.c[i] (by simp [hi2])
            simp [hi2]
            simpa using this
          · rfl
        obtain ⟨σ', D', k1, k2, k3, k4⟩ := g.adopt (row_alive hrow) hq (ob := .cells (c.toList.take (len * z') ++ concL σ new ++ c.toList.drop (len * z' + (concL σ new).length)).toArray r.e fr)
          (w' := w.setRow (σ b).b (c.toList.take (len * z') ++ concL σ new ++ c.toList.drop (len * z' + (concL σ new).length)).toArray)
          (by
            refine ⟨he.symm, ?_, ?_, (fun hx => by cases hx), ?_, hext.onL (onL_append.2 ⟨l2, hnon⟩), hfro, hsg⟩
            · simp [concL_length, hnl]; omega
            · simp [l3, hnl]; omega
            · intro i v hv
              have hi : i < (old ++ new).length := (List.getElem?_eq_some_iff.1 hv).1
              rw [hpre, ← concL_append]
              simp only [List.getElem?_toArray]
              rw [List.getElem?_append_left (by rw [concL_length]; exact hi), concL_eq, List.getElem?_map]
              simp only at hv
              rw [hv]
              simp only [Option.map_some]
              rw [hext.conc ((onL_iff _ _).1 (onL_append.2 ⟨l2, hnon⟩) v (List.mem_of_getElem? hv))])
          rfl rfl rfl (by simp) (setRow_heap w _ c _ r.e fr hheap) (fun i hi => setRow_other w _ i _ hi)
        refine ⟨σ', D', _, ?_, k4, k1, k3⟩
        simp only [conc, capOf, k2, Nat.sub_zero]
        refine append_room (ty := ty) (base := some _) hu h4 h2 hi hn hnew hroom (fun a ea => ?_) (fun e => by cases e)
        cases ea
        rw [add_at, Nat.zero_add]
        exact hst
      · -- a new row
        refine grow _ len _ r.fz r.sg old (s.put b .gone) ((drew_good g).gone hbt) hroom hfit ?_ l3 l2 h
        simp only [Builtin.firstCells]
        exact l1'
  · cases h
theorem copyA_of {t ty : TypeId} {ts : List TypeId} {x y : AV} {p : AV × St} (g : Good B F σ D s w) (h : copyA s t x y = some p) :
    Res B F σ D w (Builtin.copy_ (t :: ts).toArray ty #[conc σ x, conc σ y]) p.1 p.2 := by
  (have ⟨e, h1, hNew⟩ := oB_of h; replace h := hNew; clear hNew)
  (have ⟨z, h2, hNew⟩ := oB_of h; replace h := hNew; clear hNew)
  (have ⟨n, h3, hNew⟩ := oB_of h; replace h := hNew; clear hNew)
  have hu := uSlice_of h1
  have hn := srcLen_of (σ := σ) h3 w
  split at h
  · (have ⟨l, h4, hNew⟩ := oB_of h; replace h := hNew; clear hNew)
    cases h
    obtain ⟨k1, k2, _⟩ := srcCells_of g h4
    refine ⟨σ, D, w, ?_, g, Ext.refl _ _, by simp [On]⟩
    simp [Builtin.copy_, run_underlying hu, conc, hn, sizeA_of h2, k1, goInt]
  · rename_i b off len c
    (have ⟨l, h4, hNew⟩ := oB_of h; replace h := hNew; clear hNew)
    (have ⟨s1, h5, hNew⟩ := oB_of h; replace h := hNew; clear hNew)
    cases h
    obtain ⟨k1, k2, _⟩ := srcCells_of g h4
    obtain ⟨w', q1, q2, _⟩ := g.write h5 k2
    refine ⟨σ, D, w', ?_, q2, Ext.refl _ _, by simp [On]⟩
    have hc : conc σ (.sl b off len c) = .slice (some ⟨(σ b).b, off, none⟩) len (match c with | .known c => c | .op e => capOf σ b off e) := by cases c <;> rfl
    rw [hc]
    simp [Builtin.copy_, run_underlying hu, hn, sizeA_of h2, k1, goInt, q1, conc]
  · cases h
end
end Go.Ev
