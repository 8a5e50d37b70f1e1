/-
  Memory, step by step: a new block, a block changed, cells read and written.
-/
import Derived.Test.YthfdbfbfldmmaaaGreatDoorMEvRel
import Derived.WalkKit
import Derived.Deep.MidRow
import Derived.Lib.FrozenHead
set_option linter.unusedVariables false
set_option linter.unusedSimpArgs false
set_option linter.unusedVariables false
set_option linter.unusedSimpArgs false
namespace Go.Ev
open Go.RowKit (Below)
def upd (σ : Sig) (b : Nat) (a : At) : Sig := fun c => if c = b then a else σ c
def plus (D : Nat → Prop) (b : Nat) : Nat → Prop := fun c => D c ∨ c = b
@[simp] theorem upd_same (σ : Sig) (b : Nat) (a : At) : upd σ b a b = a := by simp [upd]
theorem upd_other (σ : Sig) {b c : Nat} (a : At) (h : c ≠ b) : upd σ b a c = σ c := by simp [upd, h]
theorem alloc_size (w : World) (o : Obj) : (w.alloc o).heap.size = w.heap.size + 1 := by show (w.heap.push o).size = _; simp
theorem alloc_at (w : World) (o : Obj) : (w.alloc o).heap[w.heap.size]? = some o := by show (w.heap.push o)[w.heap.size]? = _; simp
section
variable {B : World} {F : Nat → Option Obj} {σ : Sig} {D : Nat → Prop} {s : St} {w : World}
theorem ext_upd {b : Nat} {a : At} (h : ¬ D b) : Ext σ D (upd σ b a) (plus D b) :=
  ⟨fun _ hc => .inl hc, fun _ hc => upd_other σ a (fun e => h (e ▸ hc))⟩
theorem Good.fresh (g : Good B F σ D s w) : ¬ D s.nx := fun h => Nat.lt_irrefl _ (g.below _ h)
theorem Good.world (g : Good B F σ D s w) {w' : World} (hh : w'.heap = w.heap) (ho : w'.os = w.os) (ht : w'.tape = w.tape) (hp : w'.output = w.output) : Good B F σ D s w' :=
  ⟨ho.trans g.os, ht.trans g.tape, hp.trans g.output, by rw [hh]; exact g.most, g.lim, g.below, fun b o h1 h2 => by rw [hh]; exact g.heap b o h1 h2, g.inj, fun b h => by rw [hh]; exact g.size b h,
    fun i o h => by rw [hh]; exact g.frame i o h, g.apart⟩
theorem new_of {o : AO} {b : Nat} {s' : St} (h : s.new o = some (b, s')) : s.nx < top ∧ b = s.nx ∧ s' = ⟨s.h.set depth s.nx o, s.nx + 1⟩ := by
  obtain ⟨h1, h2⟩ := gd_of h
  cases h2
  exact ⟨by simpa using h1, rfl, rfl⟩
theorem get_new {o : AO} (ht : s.nx < top) (b : Nat) : (⟨s.h.set depth s.nx o, s.nx + 1⟩ : St).h.get b = if b = s.nx then some o else s.h.get b := T.get_set' _ _ (by omega) b
theorem Good.new (g : Good B F σ D s w) {o : AO} {ob : Obj} {n b : Nat} {s' : St} (h : s.new o = some (b, s'))
    (hr : ORel (upd σ s.nx ⟨w.heap.size, n⟩) (plus D s.nx) ⟨w.heap.size, n⟩ o ob) : Good B F (upd σ s.nx ⟨w.heap.size, n⟩) (plus D s.nx) s' (w.alloc ob) := by
  obtain ⟨ht, rfl, rfl⟩ := new_of h
  have hext : Ext σ D (upd σ s.nx ⟨w.heap.size, n⟩) (plus D s.nx) := ext_upd g.fresh
  have hold : ∀ c, D c → c ≠ s.nx := fun c hc e => g.fresh (e ▸ hc)
  have hheap : ∀ i, i < w.heap.size → (w.alloc ob).heap[i]? = w.heap[i]? := fun i hi => Below.heap_alloc w ob i hi
  have hal : ∀ c, alive ⟨s.h.set depth s.nx o, s.nx + 1⟩ c → c = s.nx ∨ (c ≠ s.nx ∧ alive s c) := by
    rintro c ⟨q, hq, hne⟩
    rw [get_new ht] at hq
    by_cases hc : c = s.nx
    · exact .inl hc
    · rw [if_neg hc] at hq
      exact .inr ⟨hc, q, hq, hne⟩
  have hin : ∀ c, alive s c → D c := fun c ⟨q, hq, hne⟩ => (g.heap c q hq hne).1
  refine ⟨g.os, g.tape, g.output, ?_, ht, ?_, ?_, ?_, ?_, ?_, ?_⟩
  · have := g.most; rw [alloc_size]; omega
  · rintro c (hc | rfl)
    · have := g.below c hc; simp only; omega
    · simp only; omega
  · intro c q hq hne
    rw [get_new ht] at hq
    by_cases hc : c = s.nx
    · subst hc
      rw [if_pos rfl] at hq
      cases hq
      refine ⟨.inr rfl, ob, ?_, ?_⟩
      · rw [upd_same]; exact alloc_at w ob
      · rw [upd_same]; exact hr
    · rw [if_neg hc] at hq
      obtain ⟨hd, ob', h1, h2⟩ := g.heap c q hq hne
      rw [upd_other _ _ hc]
      exact ⟨.inl hd, ob', by rw [hheap _ (g.size c hd)]; exact h1, hext.orel h2⟩
  · intro c d hc hd he
    rcases hal c hc with rfl | ⟨hc1, hc2⟩ <;> rcases hal d hd with rfl | ⟨hd1, hd2⟩
    · rfl
    · rw [upd_same, upd_other _ _ hd1] at he
      have := g.size d (hin d hd2); simp only at he; omega
    · rw [upd_same, upd_other _ _ hc1] at he
      have := g.size c (hin c hc2); simp only at he; omega
    · rw [upd_other _ _ hc1, upd_other _ _ hd1] at he
      exact g.inj c d hc2 hd2 he
  · rintro c (hc | rfl)
    · rw [upd_other _ _ (hold c hc)]
      have := g.size c hc; rw [alloc_size]; omega
    · rw [upd_same, alloc_size]; simp only; omega
  · intro i q hq
    have h1 := g.frame i q hq
    have hlt : i < w.heap.size := (Array.getElem?_eq_some_iff.1 h1).1
    rw [hheap i hlt]; exact h1
  · intro c hc
    rcases hal c hc with rfl | ⟨hc1, hc2⟩
    · rw [upd_same]
      cases hq : F w.heap.size with
      | none => rfl
      | some q =>
        have := (Array.getElem?_eq_some_iff.1 (g.frame _ q hq)).1
        omega
    · rw [upd_other _ _ hc1]; exact g.apart c hc2
theorem get_put {b : Nat} (o : AO) (hb : b ≤ top) (c : Nat) : (s.put b o).h.get c = if c = b then some o else s.h.get c := T.get_set' _ _ hb c
theorem Good.put (g : Good B F σ D s w) {b : Nat} (ha : alive s b) {o : AO} {ob : Obj} {w' : World} (hr : ORel σ D (σ b) o ob)
    (ho : w'.os = w.os) (ht : w'.tape = w.tape) (hp : w'.output = w.output) (hsz : w'.heap.size = w.heap.size)
    (hb : w'.heap[(σ b).b]? = some ob) (hoth : ∀ i, i ≠ (σ b).b → w'.heap[i]? = w.heap[i]?) : Good B F σ D (s.put b o) w' := by
  have hD : D b := by obtain ⟨q, hq, hne⟩ := ha; exact (g.heap b q hq hne).1
  have hbt : b ≤ top := by have := g.below b hD; have := g.lim; omega
  have hal : ∀ c, alive (s.put b o) c → alive s c := by
    rintro c ⟨q, hq, hne⟩
    rw [get_put o hbt] at hq
    by_cases hc : c = b
    · exact hc ▸ ha
    · rw [if_neg hc] at hq; exact ⟨q, hq, hne⟩
  refine ⟨ho.trans g.os, ht.trans g.tape, hp.trans g.output, by rw [hsz]; exact g.most, g.lim, g.below, ?_, fun c d hc hd => g.inj c d (hal c hc) (hal d hd), fun c hc => by rw [hsz]; exact g.size c hc, ?_, fun c hc => g.apart c (hal c hc)⟩
  · intro c q hq hne
    rw [get_put o hbt] at hq
    by_cases hc : c = b
    · subst hc
      rw [if_pos rfl] at hq
      cases hq
      exact ⟨hD, ob, hb, hr⟩
    · rw [if_neg hc] at hq
      obtain ⟨hd, ob', h1, h2⟩ := g.heap c q hq hne
      refine ⟨hd, ob', ?_, h2⟩
      rw [hoth _ (fun e => hc (g.inj c b ⟨q, hq, hne⟩ ha e))]
      exact h1
  · intro i q hq
    rw [hoth i (fun e => ?_)]
    · exact g.frame i q hq
    · have := g.apart b ha
      rw [← e, hq] at this
      cases this
theorem Good.gone (g : Good B F σ D s w) {b : Nat} (hb : b ≤ top) : Good B F σ D (s.put b .gone) w := by
  have hal : ∀ c, alive (s.put b .gone) c → c ≠ b ∧ alive s c := by
    rintro c ⟨q, hq, hne⟩
    rw [get_put .gone hb] at hq
    by_cases hc : c = b
    · rw [if_pos hc] at hq; cases hq; exact absurd rfl hne
    · rw [if_neg hc] at hq; exact ⟨hc, q, hq, hne⟩
  refine ⟨g.os, g.tape, g.output, g.most, g.lim, g.below, ?_, fun c d hc hd => g.inj c d (hal c hc).2 (hal d hd).2, g.size, g.frame, fun c hc => g.apart c (hal c hc).2⟩
  intro c q hq hne
  rw [get_put .gone hb] at hq
  by_cases hc : c = b
  · rw [if_pos hc] at hq; cases hq; exact absurd rfl hne
  · rw [if_neg hc] at hq; exact g.heap c q hq hne
/-! ### Rows of cells -/
theorem row_of {b : Nat} {r : Row} (h : s.row b = some r) : s.h.get b = some (.cells r) := by
  obtain ⟨o, h1, h2⟩ := oB_of h
  cases o <;> simp [isRow] at h2
  rw [h1, h2]
theorem mapAt_of {b : Nat} {m : List (AV × AV × Nat) × Nat} (h : s.mapAt b = some m) : s.h.get b = some (.map m.1 m.2) := by
  obtain ⟨o, h1, h2⟩ := oB_of h
  cases o <;> simp [isMap] at h2
  rw [h1, ← h2]
theorem loopAt_of {b : Nat} {l : Lp} (h : s.loopAt b = some l) : s.h.get b = some (.loop l) := by
  obtain ⟨o, h1, h2⟩ := oB_of h
  cases o <;> simp [isLoop] at h2
  rw [h1, h2]
theorem chanAt_of {b : Nat} {m : Nat × List AV × Nat × Nat} (h : s.chanAt b = some m) : s.h.get b = some (.chan m.1 m.2.1 m.2.2.1 m.2.2.2) := by
  obtain ⟨o, h1, h2⟩ := oB_of h
  cases o <;> simp [isChan] at h2
  rw [h1, ← h2]
theorem row_alive {b : Nat} {r : Row} (h : s.row b = some r) : alive s b := ⟨_, row_of h, by simp⟩
theorem Good.row (g : Good B F σ D s w) {b : Nat} {r : Row} (h : s.row b = some r) : D b ∧ ∃ c fr, w.heap[(σ b).b]? = some (.cells c r.e fr) ∧ ORel σ D (σ b) (.cells r) (.cells c r.e fr) := by
  obtain ⟨hd, ob, h1, h2⟩ := g.heap b _ (row_of h) (by simp)
  cases ob <;> simp only [ORel] at h2
  rename_i c e fr
  obtain ⟨rfl, h3⟩ := h2
  exact ⟨hd, c, fr, h1, rfl, h3⟩
theorem Good.cell (g : Good B F σ D s w) {b i : Nat} {r : Row} {v : AV} (h : s.row b = some r) (hv : r.c[i]? = some v) : w.cell? ⟨(σ b).b, i, none⟩ = some (conc σ v) ∧ On D v := by
  obtain ⟨hd, c, fr, h1, h2⟩ := g.row h
  obtain ⟨_, _, _, _, h3, h4, _⟩ := h2
  refine ⟨?_, (onL_iff _ _).1 h4 v (List.mem_of_getElem? hv)⟩
  simp only [World.cell?, h1, Option.isSome_none, Bool.false_eq_true, if_false]
  exact h3 i v hv
theorem Good.loads (g : Good B F σ D s w) {b off n : Nat} {r : Row} {l : List AV} (h : s.row b = some r) (hl : cut r.c off n = some l) :
    (loadCells ⟨(σ b).b, off, none⟩ n).run PP w = .ok (concL σ l).toArray w ∧ OnL D l ∧ l.length = n := by
  obtain ⟨h1, h2, rfl⟩ := (cut_some _ _ _ _).1 hl
  have hlen : ((r.c.drop off).take n).length = n := by simp; omega
  refine ⟨?_, ?_, hlen⟩
  · have := run_loadCells_list (P := PP) w ⟨(σ b).b, off, none⟩ (concL σ ((r.c.drop off).take n)) (fun j v hv => by
      rw [concL_eq, List.getElem?_map] at hv
      simp only [Option.map_eq_some_iff] at hv
      obtain ⟨x, hx, rfl⟩ := hv
      rw [Addr.add_mid]
      have hx' : r.c[off + j]? = some x := by
        rw [List.getElem?_take] at hx
        split at hx
        · rwa [List.getElem?_drop] at hx
        · cases hx
      exact (g.cell h hx').1)
    rw [concL_eq, List.length_map, hlen] at this
    rw [concL_eq]; exact this
  · rw [onL_iff]
    intro v hv
    obtain ⟨hd, c, fr, _, hr⟩ := g.row h
    obtain ⟨_, _, _, _, _, h4, _⟩ := hr
    exact (onL_iff _ _).1 h4 v (List.mem_of_mem_drop (List.mem_of_mem_take hv))
theorem one_conc (v : AV) : (conc σ v).oneCell' = v.one := by
  cases v <;> simp [conc, Value.oneCell', AV.one]
  rename_i c; cases c <;> simp [conc]
theorem run_storeRow (g o : Nat) (t : TypeId) (fr : Nat × Nat) : ∀ (vs : List Value) (i : Nat) (cur : Array Value) (w : World), w.heap[g]? = some (.cells cur t fr) →
    (∀ j, o + i ≤ j → j < o + i + vs.length → ¬ (fr.1 ≤ j ∧ j < fr.2)) → o + i + vs.length ≤ cur.size → (∀ v ∈ vs, v.oneCell' = true) →
    (storeCells ⟨g, o, none⟩ vs i).run PP w = .ok () (w.setRow g (cur.toList.take (o + i) ++ vs ++ cur.toList.drop (o + i + vs.length)).toArray)
  | [], i, cur, w, hg, _, _, _ => by
    simp only [storeCells, List.append_nil, List.length_nil, Nat.add_zero, List.take_append_drop, Array.toArray_toList]
    rw [setRow_self w g cur t fr hg]
    rfl
  | v :: rest, i, cur, w, hg, hfz, hl, h1 => by
    have hi : o + i < cur.size := by simp at hl; omega
    have hadd : (⟨g, o, none⟩ : Addr).add i = ⟨g, o + i, none⟩ := by unfold Addr.add; split <;> simp_all
    have hcell : w.cell? ⟨g, o + i, none⟩ = some cur[o + i] := by simp [World.cell?, hg, hi]
    have hfro : w.frozen? ⟨g, o + i, none⟩ = false := by
      obtain ⟨lo, hi'⟩ := fr
      have := hfz (o + i) (by omega) (by simp)
      simp only [World.frozen?, hg, Bool.and_eq_false_iff, decide_eq_false_iff_not]
      simp only at this
      omega
    have hst : (store ((⟨g, o, none⟩ : Addr).add i) v).run PP w = .ok () (w.setRow g (cur.setIfInBounds (o + i) v)) := by
      rw [hadd, run_store PP w _ v _ (h1 v (by simp)), hcell]
      simp [hfro, setCell_eq_setRow w g (o + i) cur t fr v hg]
    have ih := run_storeRow g o t fr rest (i + 1) (cur.setIfInBounds (o + i) v) (w.setRow g (cur.setIfInBounds (o + i) v)) (setRow_heap w g cur _ t _ hg)
      (fun j a b => hfz j (by omega) (by simp at b ⊢; omega)) (by simp at hl ⊢; omega) (fun x hx => h1 x (by simp [hx]))
    simp only [storeCells, Sem.run_bind, hst, Result.andThen_ok, ih, setRow_setRow]
    congr 3
    have e := list_seg_step cur.toList (o + i) v rest (by simp at hl ⊢; omega)
    simpa [Array.toList_setIfInBounds, Nat.add_assoc] using e
theorem Good.write (g : Good B F σ D s w) {b off : Nat} {vs : List AV} {s' : St} (h : writeA s b off vs = some s') (hon : OnL D vs) :
    ∃ w', (storeCells ⟨(σ b).b, off, none⟩ (concL σ vs)).run PP w = .ok () w' ∧ Good B F σ D s' w' ∧ s'.nx = s.nx := by
  cases vs with
  | nil =>
    cases h
    exact ⟨w, by simp [concL, storeCells], g, rfl⟩
  | cons v0 vs0 =>
    obtain ⟨r, hr, h⟩ := oB_of h
    obtain ⟨hgd, h⟩ := gd_of h
    obtain ⟨c', hc', h⟩ := oB_of h
    cases h
    simp only [Bool.and_eq_true, Nat.ble_eq, allL_eq, List.all_eq_true] at hgd
    obtain ⟨hfz, hone⟩ := hgd
    obtain ⟨h1, h2, rfl⟩ := (overwrite_some _ _ _ _).1 hc'
    obtain ⟨hD, c, fr, hheap, hrel⟩ := g.row hr
    obtain ⟨_, hsz, hle, hcl, hcells, hon', hfro, hsg⟩ := hrel
    generalize hvs : v0 :: vs0 = vs at *
    have hst := run_storeRow (σ b).b off r.e fr (concL σ vs) 0 c w hheap
      (fun j ha hb => by
        rw [concL_eq, List.length_map] at hb
        rintro ⟨x, y⟩
        have := hfro j (by omega) x y
        omega)
      (by rw [concL_eq, List.length_map]; omega)
      (fun v hv => by
        rw [concL_eq, List.mem_map] at hv
        obtain ⟨x, hx, rfl⟩ := hv
        rw [one_conc]; exact hone x hx)
    simp only [Nat.add_zero] at hst
    refine ⟨_, hst, ?_, rfl⟩
    have hlen : (concL σ vs).length = vs.length := by rw [concL_eq, List.length_map]
    refine g.put (row_alive hr) (o := .cells _) ?_ rfl rfl rfl (by simp) (setRow_heap w _ c _ r.e fr hheap) (fun i hi => setRow_other w _ i _ hi)
    refine ⟨rfl, ?_, ?_, ?_, ?_, ?_, hfro, hsg⟩
    · simp [hlen]; omega
    · simp; omega
    · intro ho
      have := hcl ho
      simp; omega
    · intro i v hv
      rw [hlen]
      simp only [List.getElem?_toArray]
      rcases Nat.lt_or_ge i off with hi | hi
      · rw [List.append_assoc, List.getElem?_append_left (by simp; omega), List.getElem?_take_of_lt hi] at hv
        rw [List.append_assoc, List.getElem?_append_left (by simp; omega), List.getElem?_take_of_lt hi]
        have := hcells i v hv
        simpa using this
      · rcases Nat.lt_or_ge i (off + vs.length) with hj | hj
        · rw [List.append_assoc, List.getElem?_append_right (by simp; omega), List.getElem?_append_left (by simp; omega)] at hv
          rw [List.append_assoc, List.getElem?_append_right (by simp; omega), List.getElem?_append_left (by simp [hlen]; omega)]
          simp only [List.length_take, Array.length_toList] at hv ⊢
          rw [Nat.min_eq_left (by omega)] at hv ⊢
          rw [concL_eq, List.getElem?_map, hv]
          rfl
        · rw [List.append_assoc, List.getElem?_append_right (by simp; omega), List.getElem?_append_right (by simp; omega), List.getElem?_drop] at hv
          rw [List.append_assoc, List.getElem?_append_right (by simp; omega), List.getElem?_append_right (by simp [hlen]; omega), List.getElem?_drop]
          simp only [List.length_take, Array.length_toList, hlen] at hv ⊢
          rw [Nat.min_eq_left (by omega)] at hv ⊢
          have e : off + vs.length + (i - off - vs.length) = i := by omega
          rw [e] at hv ⊢
          have := hcells i v hv
          simpa using this
    · rw [onL_iff] at hon hon' ⊢
      intro v hv
      simp only [List.mem_append] at hv
      rcases hv with (hv | hv) | hv
      · exact hon' v (List.mem_of_mem_take hv)
      · exact hon v hv
      · exact hon' v (List.mem_of_mem_drop hv)
end
end Go.Ev
