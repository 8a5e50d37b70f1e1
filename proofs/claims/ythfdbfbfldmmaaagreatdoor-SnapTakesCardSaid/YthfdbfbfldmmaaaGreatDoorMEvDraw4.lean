/-
  Open regions: memory beside the one order's, and slots.
-/
import Derived.Test.YthfdbfbfldmmaaaGreatDoorMEvDraw3
set_option linter.unusedVariables false
set_option linter.unusedSimpArgs false
set_option linter.unusedVariables false
set_option linter.unusedSimpArgs false
namespace Go.Ev
open Go.RowKit (Below)
section
variable {B : World} {F : Nat → Option Obj} {σ : Sig} {D : Nat → Prop} {s : St} {w : World}
theorem alive_on (g : Good B F σ D s w) {b : Nat} (h : alive s b) : D b := by
  obtain ⟨q, hq, hne⟩ := h
  exact (g.heap b q hq hne).1
theorem Good.congr {σ' : Sig} (g : Good B F σ D s w) (h : ∀ b, D b → σ' b = σ b) : Good B F σ' D s w := by
  have hext : Ext σ D σ' D := ⟨fun _ h => h, h⟩
  refine ⟨g.os, g.tape, g.output, g.most, g.lim, g.below, fun b o h1 h2 => ?_, fun b c hb hc he => ?_, fun b hb => ?_, g.frame, fun b hb => ?_⟩
  · obtain ⟨k1, ob, k2, k3⟩ := g.heap b o h1 h2
    rw [h b k1]
    exact ⟨k1, ob, k2, hext.orel k3⟩
  · rw [h b (alive_on g hb), h c (alive_on g hc)] at he
    exact g.inj b c hb hc he
  · rw [h b hb]; exact g.size b hb
  · rw [h b (alive_on g hb)]; exact g.apart b hb
theorem Good.grow {D' : Nat → Prop} {N : Nat} (g : Good B F σ D s w) (h : ∀ b, D b → D' b) (hN : N ≤ top) (hb : ∀ b, D' b → b < N) (hs : ∀ b, D' b → (σ b).b < w.heap.size) : Good B F σ D' ⟨s.h, N⟩ w := by
  have hext : Ext σ D σ D' := ⟨h, fun _ _ => rfl⟩
  exact ⟨g.os, g.tape, g.output, g.most, hN, hb, fun b o h1 h2 => (by obtain ⟨k1, ob, k2, k3⟩ := g.heap b o h1 h2; exact ⟨h b k1, ob, k2, hext.orel k3⟩), g.inj, hs, g.frame, g.apart⟩
theorem Good.frames {F' : Nat → Option Obj} (g : Good B F σ D s w) (h : ∀ i o, F' i = some o → F i = some o) : Good B F' σ D s w :=
  ⟨g.os, g.tape, g.output, g.most, g.lim, g.below, g.heap, g.inj, g.size, fun i o hi => g.frame i o (h i o hi), fun b hb => by
    cases hf : F' (σ b).b with
    | none => rfl
    | some o => have := g.apart b hb; rw [h _ _ hf] at this; cases this⟩
theorem Good.takeIn (g : Good B F σ D s w) {b : Nat} {o : AO} {ob : Obj} (hb : D b) (hf : F (σ b).b = some ob) (hr : ORel σ D (σ b) o ob) :
    Good B (fun i => if i = (σ b).b then none else F i) σ D (s.put b o) w := by
  have hbt : b ≤ top := by have := g.below b hb; have := g.lim; omega
  have hal : ∀ c, alive (s.put b o) c → c = b ∨ (c ≠ b ∧ alive s c) := by
    rintro c ⟨q, hq, hne⟩
    rw [get_put o hbt] at hq
    by_cases hc : c = b
    · exact .inl hc
    · rw [if_neg hc] at hq; exact .inr ⟨hc, q, hq, hne⟩
  have hoth : ∀ c, alive s c → (σ c).b ≠ (σ b).b := fun c hc e => by
    have := g.apart c hc
    rw [e, hf] at this
    cases this
  refine ⟨g.os, g.tape, g.output, g.most, g.lim, g.below, fun c q hq hne => ?_, fun c d hc hd he => ?_, g.size, fun i q hq => ?_, fun c hc => ?_⟩
  · rw [get_put o hbt] at hq
    by_cases hc : c = b
    · subst hc
      rw [if_pos rfl] at hq
      cases hq
      exact ⟨hb, ob, g.frame _ _ hf, hr⟩
    · rw [if_neg hc] at hq; exact g.heap c q hq hne
  · rcases hal c hc with rfl | ⟨hc1, hc2⟩ <;> rcases hal d hd with rfl | ⟨hd1, hd2⟩
    · rfl
    · exact absurd he.symm (hoth d hd2)
    · exact absurd he (hoth c hc2)
    · exact g.inj c d hc2 hd2 he
  · split at hq
    · cases hq
    · exact g.frame i q hq
  · rcases hal c hc with rfl | ⟨hc1, hc2⟩
    · rw [if_pos rfl]
    · rw [if_neg (hoth c hc2)]; exact g.apart c hc2
theorem Good.side (g : Good B F σ D s w) (ob : Obj) : Good B (fun i => if i = w.heap.size then some ob else F i) σ D s (w.alloc ob) := by
  have hheap : ∀ i, i < w.heap.size → (w.alloc ob).heap[i]? = w.heap[i]? := fun i hi => Below.heap_alloc w ob i hi
  refine ⟨g.os, g.tape, g.output, ?_, g.lim, g.below, fun b o h1 h2 => ?_, g.inj, fun b hb => ?_, fun i o hi => ?_, fun b hb => ?_⟩
  · have := g.most; rw [alloc_size]; omega
  · obtain ⟨k1, ob', k2, k3⟩ := g.heap b o h1 h2
    exact ⟨k1, ob', by rw [hheap _ (g.size b k1)]; exact k2, k3⟩
  · have := g.size b hb; rw [alloc_size]; omega
  · split at hi
    · rename_i e; cases hi; rw [e]; exact alloc_at w _
    · have h1 := g.frame i o hi
      rw [hheap i (Array.getElem?_eq_some_iff.1 h1).1]; exact h1
  · rw [if_neg (by have := g.size b (alive_on g hb); omega)]
    exact g.apart b hb
theorem publish_good : ∀ {pds : List Pd} {s : St} {F : Nat → Option Obj}, Good B F σ D s w → (∀ pd ∈ pds, D pd.b ∧ ∃ ob, F (σ pd.b).b = some ob ∧ ORel σ D (σ pd.b) pd.o ob) →
    pds.Pairwise (fun a b => (σ a.b).b ≠ (σ b.b).b) →
    ∃ F', Good B F' σ D (publish pds s) w ∧ (∀ i o, F' i = some o → F i = some o) ∧ ∀ i, F' i = F i ∨ ∃ pd ∈ pds, i = (σ pd.b).b
  | [], s, F, g, _, _ => ⟨F, g, fun _ _ h => h, fun _ => .inl rfl⟩
  | pd :: pds, s, F, g, h, hp => by
    obtain ⟨h1, ob, h2, h3⟩ := h pd (by simp)
    obtain ⟨hp1, hp2⟩ := List.pairwise_cons.1 hp
    obtain ⟨F', k1, k2, k3⟩ := publish_good (g.takeIn h1 h2 h3) (fun q hq => by
      obtain ⟨q1, ob', q2, q3⟩ := h q (by simp [hq])
      exact ⟨q1, ob', by rw [if_neg (Ne.symm (hp1 q hq))]; exact q2, q3⟩) hp2
    refine ⟨F', k1, fun i o hi => ?_, fun i => ?_⟩
    · have := k2 i o hi
      split at this
      · cases this
      · exact this
    · rcases k3 i with k | ⟨q, q1, q2⟩
      · split at k
        · rename_i e; exact .inr ⟨pd, by simp, e⟩
        · exact .inl k
      · exact .inr ⟨q, by simp [q1], q2⟩
end
/-! ### Who is listed -/
section
variable {n : Nat} {ops : Array Oper} {xs : List Stp} {d0 dE : Dr} {listed : Array Bool}
def Lof (xs : List Stp) (listed : Array Bool) (p : Nat) : Bool := match xs[p]? with | some x => listed.getD x.t.i false | none => false
theorem Lof_at {p : Nat} {x : Stp} (hx : xs[p]? = some x) : Lof xs listed p = listed.getD x.t.i false := by simp [Lof, hx]
def Closed (ops : Array Oper) (listed : Array Bool) : Prop := ∀ i m, listed.getD i false = true → (masks ops.toList [])[i]? = some m → ∀ j, bit m j = true → listed.getD j false = true
theorem getD_set {i j : Nat} (h : i < listed.size) : (listed.setIfInBounds i true).getD j false = if i = j then true else listed.getD j false := by
  by_cases e : i = j
  · subst e
    simp [h]
  · simp [Array.getElem?_setIfInBounds_ne e, e]
theorem Tra.order (T : Tra n ops xs d0 dE) (hc : Closed ops listed) {p r : Nat} {x y : Stp} {u : Tmp} (hx : xs[p]? = some x) (hy : xs[r]? = some y) (hr : r ≠ p) (hl : listed.getD x.t.i false = false) (hm : ∀ j, bit x.t.m j = true → listed.getD j false = true)
    (hd : y.t.o.dst = some u) (hu : u ∈ names ops.toList x.t.o) : listed.getD y.t.i false = decide (r < p) := by
  obtain ⟨i1, i2⟩ := T.item p x hx
  obtain ⟨j1, j2⟩ := T.item r y hy
  have hne : x.t.i ≠ y.t.i := fun e => hr (T.once r p y x hy hx e.symm)
  rcases Nat.lt_or_ge y.t.i x.t.i with h | h
  · rcases T.slots _ _ _ i1 i2 _ _ h j1 with hb | ⟨hb, _⟩
    · obtain ⟨q, z, q1, q2, q3⟩ := T.fit p x _ hx hb
      have : q = r := T.once q r z y q2 hy q3
      subst this
      rw [hm _ hb]
      simp [q1]
    · exact absurd hu (hb u hd)
  · rcases T.slots _ _ _ j1 j2 _ _ (Nat.lt_of_le_of_ne h hne) i1 with hb | ⟨_, hb⟩
    · obtain ⟨q, z, q1, q2, q3⟩ := T.fit r y _ hy hb
      have : q = p := T.once q p z x q2 hx q3
      subst this
      rw [show decide (r < q) = false by simp; omega]
      cases hh : listed.getD y.t.i false with
      | false => rfl
      | true => rw [hc _ _ hh j2 _ hb] at hl; cases hl
    · exact absurd hu (hb u hd)
theorem Tra.mask_listed (T : Tra n ops xs d0 dE) (hc : Closed ops listed) {p : Nat} {x : Stp} (hx : xs[p]? = some x) (hr : x.t.i ∈ Region.ready .any ops listed) : ∀ j, bit x.t.m j = true → listed.getD j false = true := by
  intro j hj
  obtain ⟨i1, i2⟩ := T.item p x hx
  obtain ⟨_, o, ho, hall⟩ := mem_ready.1 hr
  have e : o = x.t.o := by
    rw [Array.getElem?_toList, ho] at i1
    exact Option.some.inj i1
  subst e
  obtain ⟨e, h1, h2, h3⟩ := masks_bit i1 i2 hj
  have hl := hall e (by simpa using h1) h2
  rcases h3 with rfl | ⟨m', h3, h4⟩
  · exact hl
  · exact hc _ _ hl h3 _ h4
theorem Closed.add (hc : Closed ops listed) {i : Nat} {m : Nat} (hi : i < listed.size) (hm : (masks ops.toList [])[i]? = some m) (h : ∀ j, bit m j = true → listed.getD j false = true) : Closed ops (listed.setIfInBounds i true) := by
  intro k m' hk hm' j hj
  rw [getD_set hi] at hk ⊢
  by_cases e : i = j
  · rw [if_pos e]
  · rw [if_neg e]
    by_cases ek : i = k
    · subst ek
      rw [hm] at hm'
      cases hm'
      exact h j hj
    · rw [if_neg ek] at hk
      exact hc _ _ hk hm' j hj
theorem Lof_add (T : Tra n ops xs d0 dE) {p : Nat} {x : Stp} (hx : xs[p]? = some x) (hi : x.t.i < listed.size) (q : Nat) : Lof xs (listed.setIfInBounds x.t.i true) q = if q = p then true else Lof xs listed q := by
  by_cases e : q = p
  · subst e
    rw [if_pos rfl, Lof_at hx, getD_set hi, if_pos rfl]
  · rw [if_neg e]
    cases hy : xs[q]? with
    | none => simp [Lof, hy]
    | some y =>
      rw [Lof_at hy, Lof_at hy, getD_set hi, if_neg (fun h => e (T.once q p y x hy hx h.symm))]
theorem dst_names {o : Oper} {u : Tmp} (h : o.dst = some u) (l : List Oper) : u ∈ names l o := by
  unfold names
  simp [h]
theorem Tra.vAt_add (T : Tra n ops xs d0 dE) (hc : Closed ops listed) {p : Nat} {x : Stp} (hx : xs[p]? = some x) (hi : x.t.i < listed.size) (hl : listed.getD x.t.i false = false)
    (hm : ∀ j, bit x.t.m j = true → listed.getD j false = true) (u : Tmp) :
    vAt xs d0.tm (Lof xs (listed.setIfInBounds x.t.i true)) u xs.length = if x.t.o.dst = some u then x.v else vAt xs d0.tm (Lof xs listed) u xs.length := by
  have hp : p < xs.length := (List.getElem?_eq_some_iff.1 hx).1
  split
  · rename_i hd
    refine vAt_last hp hx (by rw [Lof_add T hx hi, if_pos rfl]) hd fun q y h1 _ hy hyd => ?_
    rw [Lof_add T hx hi, if_neg (by omega), Lof_at hy, T.order hc hx hy (by omega) hl hm hyd (dst_names hd _)]
    simp; omega
  · rename_i hd
    refine vAt_congr fun q y _ hy hyd => ?_
    rw [Lof_add T hx hi]
    by_cases e : q = p
    · subst e
      rw [hx] at hy
      cases hy
      exact absurd hyd hd
    · rw [if_neg e]
theorem Tra.vAt_now (T : Tra n ops xs d0 dE) (hn : n ≤ top) (hc : Closed ops listed) {p : Nat} {x : Stp} (hx : xs[p]? = some x) (hl : listed.getD x.t.i false = false)
    (hm : ∀ j, bit x.t.m j = true → listed.getD j false = true) {u : Tmp} (hu : u ∈ names ops.toList x.t.o) : vAt xs d0.tm (Lof xs listed) u xs.length = tmA x.d.tm u := by
  have hp : p < xs.length := (List.getElem?_eq_some_iff.1 hx).1
  rw [(T.step p x hx).1, ← T.vAt_upto hn u (Nat.le_of_lt hp)]
  refine vAt_congr fun q y _ hy hyd => ?_
  by_cases e : q = p
  · subst e
    rw [Lof_at hx, hl]
    simp
  · rw [Lof_at hy, T.order hc hx hy e hl hm hyd hu]
end
end Go.Ev
