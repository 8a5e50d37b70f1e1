/-
  slices.Insert at items, for the evaluator.
-/
import Derived.Test.YthfdbfbfldmmaaaGreatDoorMGvAppendE
import Derived.Test.YthfdbfbfldmmaaaGreatDoorMEvKeys
import Derived.Test.YthfdbfbfldmmaaaGreatDoorMEvFacts
set_option linter.unusedVariables false
set_option linter.unusedSimpArgs false
set_option linter.unusedVariables false
set_option linter.unusedSimpArgs false
namespace Go.Ev
open Go.Proofs Go.RowKit
theorem setCells_heap (b : Nat) (e : TypeId) (fr : Nat × Nat) : ∀ (vs : List Value) (o : Nat) (w : World) (c : Array Value), w.heap[b]? = some (.cells c e fr) →
    ∃ c', (w.setCells b o vs).heap[b]? = some (.cells c' e fr) ∧ c'.size = c.size ∧ (∀ i, i ≠ b → (w.setCells b o vs).heap[i]? = w.heap[i]?) ∧ (w.setCells b o vs).heap.size = w.heap.size ∧
      (w.setCells b o vs).os = w.os ∧ (w.setCells b o vs).tape = w.tape ∧ (w.setCells b o vs).output = w.output ∧ ∀ j, c'[j]? = if o ≤ j ∧ j < o + vs.length ∧ j < c.size then vs[j - o]? else c[j]?
  | [], o, w, c, h => ⟨c, h, rfl, fun _ _ => rfl, rfl, rfl, rfl, rfl, fun j => by rw [if_neg]; simp only [List.length_nil]; omega⟩
  | v :: vs, o, w, c, h => by
    have h1 : (w.setCell ⟨b, o, none⟩ v).heap[b]? = some (.cells (c.setIfInBounds o v) e fr) := by
      simp only [World.setCell]
      rw [Array.getElem?_modify, if_pos rfl, h]
      rfl
    obtain ⟨c', k1, k2, k3, k4, k5, k6, k7, k8⟩ := setCells_heap b e fr vs (o + 1) (w.setCell ⟨b, o, none⟩ v) _ h1
    refine ⟨c', k1, by rw [k2]; simp, fun i hi => ?_, by rw [show (w.setCells b o (v :: vs)) = (w.setCell ⟨b, o, none⟩ v).setCells b (o + 1) vs from rfl, k4]; simp [World.setCell], k5, k6, k7, fun j => ?_⟩
    · rw [show (w.setCells b o (v :: vs)) = (w.setCell ⟨b, o, none⟩ v).setCells b (o + 1) vs from rfl, k3 i hi]
      simp only [World.setCell]
      rw [Array.getElem?_modify, if_neg (Ne.symm hi)]
    · rw [k8 j]
      simp only [Array.size_setIfInBounds, List.length_cons]
      by_cases h2 : o + 1 ≤ j ∧ j < o + 1 + vs.length ∧ j < c.size
      · rw [if_pos h2, if_pos (by omega)]
        obtain ⟨q, hq⟩ : ∃ q, j - o = q + 1 := ⟨j - o - 1, by omega⟩
        rw [hq, List.getElem?_cons_succ]
        congr 1
        omega
      · rw [if_neg h2]
        by_cases h3 : j = o
        · subst h3
          by_cases h4 : j < c.size
          · rw [if_pos (by omega)]
            simp [h4]
          · rw [if_neg (by omega), Array.getElem?_setIfInBounds]
            simp [h4]
        · rw [if_neg (by omega), Array.getElem?_setIfInBounds_ne (Ne.symm h3)]
section
variable {B : World} {Fm : Nat → Option Obj} {σ : Sig} {D : Nat → Prop} {s : St} {w : World}
theorem no_frozen {b : Nat} {c : Array Value} {e : TypeId} {fr : Nat × Nat} (h : w.heap[b]? = some (.cells c e fr)) (hf : fr.1 = fr.2 ∨ fr.2 ≤ 0) (j : Nat) : w.frozen? ⟨b, j, none⟩ = false := by
  obtain ⟨lo, hi⟩ := fr
  simp only [World.frozen?, h, Bool.and_eq_false_iff, decide_eq_false_iff_not]
  rcases hf with hf | hf <;> simp only at hf <;> omega
theorem insert_cells {α : Type} (old new : List α) (i n m : Nat) (hi : i < n) (ho : old.length = n) (hn : new.length = m) (j : Nat) :
    (old.take i ++ (new ++ old.drop i))[j]? = if j < i then old[j]? else if j < i + m then new[j - i]? else old[j - m]? := by
  by_cases h1 : j < i
  · rw [if_pos h1, List.getElem?_append_left (by rw [List.length_take]; omega), List.getElem?_take, if_pos h1]
  · rw [if_neg h1, List.getElem?_append_right (by rw [List.length_take]; omega)]
    have hl : (old.take i).length = i := by rw [List.length_take]; omega
    rw [hl]
    by_cases h2 : j < i + m
    · rw [if_pos h2, List.getElem?_append_left (by omega)]
    · rw [if_neg h2, List.getElem?_append_right (by omega), List.getElem?_drop]
      congr 1
      omega
theorem insertA_of {args : List AV} {p : AV × St} (h : insertA s 154 4 args = some p) (g : Good B Fm σ D s w) :
    CallsIn Fence.wide 0 PP 291 (concL σ args).toArray w (Ret B Fm σ D p) := by
  unfold insertA at h
  split at h
  · rename_i b n z' i vb vo m k
    (have ⟨h0, hNew⟩ := gd_of h; replace h := hNew; clear hNew)
    (have ⟨r, h1, hNew⟩ := oB_of h; replace h := hNew; clear hNew)
    (have ⟨h2, hNew⟩ := gd_of h; replace h := hNew; clear hNew)
    (have ⟨old, h3, hNew⟩ := oB_of h; replace h := hNew; clear hNew)
    (have ⟨q, h4, hNew⟩ := oB_of h; replace h := hNew; clear hNew)
    (have ⟨h5, hNew⟩ := gd_of h; replace h := hNew; clear hNew)
    (have ⟨new, h6, hNew⟩ := oB_of h; replace h := hNew; clear hNew)
    (have ⟨h7, hNew⟩ := gd_of h; replace h := hNew; clear hNew)
    simp only [Bool.and_eq_true, nbeq, nble, nblt, decide_eq_true_eq, Bool.not_eq_true', decide_eq_false_iff_not] at h0 h2 h5
    obtain ⟨rfl, hin, hm, hnm, hne⟩ := h0
    obtain ⟨hopn, he, hfz, hsg⟩ := h2
    obtain ⟨qe, qfz, qsg⟩ := h5
    rw [Bool.and_eq_true] at h7
    obtain ⟨one1, one2⟩ := h7
    rw [takeL_eq, dropL_eq, appL_eq, appL_eq] at h
    obtain ⟨c1, c2, rfl⟩ := (cut_some _ _ _ _).1 h3
    obtain ⟨c3, c4, rfl⟩ := (cut_some _ _ _ _).1 h6
    rw [Nat.zero_add] at c2
    obtain ⟨hDb, c, fr, hh, _, hsz, hle, _, hcells, hon, hfro, hsgf⟩ := g.row h1
    obtain ⟨hDq, cq, frq, hhq, _, hszq, hleq, _, hcellsq, honq, hfroq, hsgq⟩ := g.row h4
    have hsgf := hsgf hsg
    have hsgq := hsgq qsg
    rw [hfz] at hsgf hfro
    rw [qfz] at hsgq
    have hab : alive s b := ⟨_, row_of h1, by simp⟩
    have haq : alive s vb := ⟨_, row_of h4, by simp⟩
    have hbne : (σ vb).b ≠ (σ b).b := fun e => hne (g.inj _ _ haq hab e)
    have hold : ((r.c.drop 0).take (n * 4)).length = n * 4 := by rw [List.length_take, List.length_drop]; omega
    have hnew : ((q.c.drop vo).take (m * 4)).length = m * 4 := by rw [List.length_take, List.length_drop]; omega
    have hcapE : capOf σ b 0 4 = (σ b).n / 4 := by simp [capOf]
    generalize hC : capOf σ b 0 4 = C at hcapE
    have hnC : n ≤ C := by rw [hcapE]; omega
    obtain ⟨cs, hcsE⟩ : ∃ cs, cs = concL σ ((r.c.drop 0).take (n * 4)) := ⟨_, rfl⟩
    obtain ⟨vs, hvsE⟩ : ∃ vs, vs = concL σ ((q.c.drop vo).take (m * 4)) := ⟨_, rfl⟩
    have hcl : cs.length = n * 4 := by rw [hcsE, concL_length, hold]
    have hvl : vs.length = m * 4 := by rw [hvsE, concL_length, hnew]
    have hcsj : ∀ j, cs[j]? = (((r.c.drop 0).take (n * 4))[j]?).map (conc σ) := fun j => by rw [hcsE, concL_eq, List.getElem?_map]
    have hvsj : ∀ j, vs[j]? = (((q.c.drop vo).take (m * 4))[j]?).map (conc σ) := fun j => by rw [hvsE, concL_eq, List.getElem?_map]
    have hcs : ∀ j v, cs[j]? = some v → w.cell? ⟨(σ b).b, j, none⟩ = some v := by
      intro j v hj
      rw [hcsj, Option.map_eq_some_iff] at hj
      obtain ⟨u, hu, rfl⟩ := hj
      rw [List.getElem?_take] at hu
      split at hu
      · rw [List.getElem?_drop, Nat.zero_add] at hu
        exact (g.cell h1 hu).1
      · cases hu
    have hvs : ∀ j v, vs[j]? = some v → w.cell? ⟨(σ vb).b, vo + j, none⟩ = some v := by
      intro j v hj
      rw [hvsj, Option.map_eq_some_iff] at hj
      obtain ⟨u, hu, rfl⟩ := hj
      rw [List.getElem?_take] at hu
      split at hu
      · rw [List.getElem?_drop] at hu
        exact (g.cell h4 hu).1
      · cases hu
    have h1c : ∀ v ∈ cs, v.oneCell' = true := by
      intro v hv
      rw [hcsE, concL_eq, List.mem_map] at hv
      obtain ⟨u, hu, rfl⟩ := hv
      rw [one_conc]
      exact allL_mem one1 u hu
    have h1v : ∀ v ∈ vs, v.oneCell' = true := by
      intro v hv
      rw [hvsE, concL_eq, List.mem_map] at hv
      obtain ⟨u, hu, rfl⟩ := hv
      rw [one_conc]
      exact allL_mem one2 u hu
    have honO : ∀ u ∈ (r.c.drop 0).take (n * 4), On D u := fun u hu => (onL_iff _ _).1 hon u (List.mem_of_mem_drop (List.mem_of_mem_take hu))
    have honN : ∀ u ∈ (q.c.drop vo).take (m * 4), On D u := fun u hu => (onL_iff _ _).1 honq u (List.mem_of_mem_drop (List.mem_of_mem_take hu))
    have hargs : (concL σ [AV.sl b 0 n (.op 4), .int .i64 (Int.ofNat i), .sl vb vo m (.known k)]).toArray = #[.slice (some ⟨(σ b).b, 0, none⟩) n C, .int .i64 i, .slice (some ⟨(σ vb).b, vo, none⟩) m k] := by
      simp [concL, conc, hC]
    rw [hargs, pp_eq]
    generalize hO : (r.c.drop 0).take (n * 4) = old at *
    generalize hN : (q.c.drop vo).take (m * 4) = new at *
    have hcell : ∀ (c2 : Array Value), (∀ j, j < (n + m) * 4 → c2[j]? = if j < i * 4 then cs[j]? else if j < (i + m) * 4 then vs[j - i * 4]? else cs[j - m * 4]?) →
        ∀ {σ' : Sig} {D' : Nat → Prop}, Ext σ D σ' D' → ∀ (j : Nat) (u : AV), (old.take (i * 4) ++ (new ++ old.drop (i * 4)))[j]? = some u → c2[j]? = some (conc σ' u) := by
      intro c2 hc2 σ' D' hx j u hu
      have hj : j < (n + m) * 4 := by
        have := (List.getElem?_eq_some_iff.1 hu).1
        rw [List.length_append, List.length_append, List.length_take, List.length_drop, hold, hnew] at this
        omega
      rw [hc2 j hj]
      rw [insert_cells old new (i * 4) (n * 4) (m * 4) (by omega) hold hnew] at hu
      split at hu
      · rw [if_pos (by assumption), hcsj, hu, Option.map_some, hx.conc (honO u (List.mem_of_getElem? hu))]
      · rename_i h8
        rw [if_neg h8]
        split at hu
        · rw [if_pos (by omega), hvsj, hu, Option.map_some, hx.conc (honN u (List.mem_of_getElem? hu))]
        · rw [if_neg (by omega), hcsj, hu, Option.map_some, hx.conc (honO u (List.mem_of_getElem? hu))]
    have hlen : (old.take (i * 4) ++ (new ++ old.drop (i * 4))).length = (n + m) * 4 := by
      rw [List.length_append, List.length_append, List.length_take, List.length_drop, hold, hnew]
      omega
    have honA : ∀ {σ' : Sig} {D' : Nat → Prop}, Ext σ D σ' D' → OnL D' (old.take (i * 4) ++ (new ++ old.drop (i * 4))) := by
      intro σ' D' hx
      rw [onL_iff]
      intro u hu
      rcases List.mem_append.1 hu with hu | hu
      · exact hx.on (honO u (List.mem_of_mem_take hu))
      · rcases List.mem_append.1 hu with hu | hu
        · exact hx.on (honN u hu)
        · exact hx.on (honO u (List.mem_of_mem_drop hu))
    (have ⟨z, hz, hNew⟩ := oB_of h; replace h := hNew; clear hNew)
    cases h
    obtain ⟨nb, s'⟩ := z
    by_cases hroom : n + m ≤ C
    · have hNn : (n + m) * 4 ≤ c.size := by rw [hsz]; rw [hcapE] at hroom; omega
      refine callsIn_wide.2 ((insert_shift (σ b).b n C i (σ vb).b vo m k cs vs w hin hm hroom hnm hbne hcl hvl hcs
        (fun j hj => by
          simp only [World.cell?, hh, Option.isSome_none, Bool.false_eq_true, if_false]
          rw [Array.getElem?_eq_getElem (by omega)]; rfl)
        (fun j _ => no_frozen hh hsgf j) hvs h1c h1v q.e r.e cq.size c.size (by simp [World.shape?, hhq]) (by simp [World.shape?, hh]) (by omega) (no_frozen hhq hsgq _) (no_frozen hhq hsgq _)).mono fun e w' hw => ?_)
      obtain ⟨rfl, rfl⟩ := hw
      obtain ⟨d1, k1, k2, k3, k4, k5, k6, k7, k8⟩ := setCells_heap (σ b).b r.e fr (cs.drop (i * 4)) ((i + m) * 4) w.drew c hh
      obtain ⟨d2, l1, l2, l3, l4, l5, l6, l7, l8⟩ := setCells_heap (σ b).b r.e fr vs (i * 4) (w.drew.setCells (σ b).b ((i + m) * 4) (cs.drop (i * 4))) d1 k1
      have hdl : (cs.drop (i * 4)).length = (n - i) * 4 := by rw [List.length_drop, hcl]; omega
      have hd2 : ∀ j, j < (n + m) * 4 → d2[j]? = if j < i * 4 then cs[j]? else if j < (i + m) * 4 then vs[j - i * 4]? else cs[j - m * 4]? := by
        intro j hj
        rw [l8 j, k8 j, hdl, hvl, k2]
        have hcj : j < n * 4 → c[j]? = cs[j]? := by
          intro hjn
          have h8 := hcs j cs[j] (by rw [List.getElem?_eq_getElem (by omega)])
          simp only [World.cell?, hh, Option.isSome_none, Bool.false_eq_true, if_false] at h8
          rw [h8, List.getElem?_eq_getElem (by omega)]
        by_cases j1 : j < i * 4
        · rw [if_pos j1, if_neg (by omega), if_neg (by omega), hcj (by omega)]
        · rw [if_neg j1]
          by_cases j2 : j < (i + m) * 4
          · rw [if_pos j2, if_pos (by omega)]
          · rw [if_neg j2, if_neg (by omega), if_pos (by omega), List.getElem?_drop]
            congr 1
            omega
      have hx : Ext σ D (upd σ s.nx (σ b)) (plus D s.nx) := ext_upd g.fresh
      obtain ⟨σ', D', m1, m2, m3, m4⟩ := g.adopt (ob := .cells d2 r.e fr) hab hz ⟨he.symm, by rw [l2, k2, hsz], by rw [hlen]; omega, (fun h => by cases h), hcell d2 hd2 hx, honA hx, hfro, fun _ => hsgf⟩
        (l5.trans k5) (l6.trans k6) (l7.trans k7) (l4.trans k4) l1 (fun x hx => (l3 x hx).trans (k3 x hx))
      refine ⟨σ', D', ?_, m4, m1, by simp only [On]; exact m3⟩
      simp only [conc, m2, capOf]
      rw [← hC]
      rfl
    · refine callsIn_wide.2 ((insert_grow (σ b).b n C i (σ vb).b vo m k cs vs w hin hm hnC (by omega) hnm hcl hvl hcs hvs h1c h1v).mono fun e w' hw => ?_)
      obtain ⟨G, ROW, g1, g2, g3, rfl, rfl⟩ := hw
      have hal : (w.alloc (.cells ROW 154)).drew.heap[w.heap.size]? = some (.cells ROW 154 (0, 0)) := alloc_at w _
      obtain ⟨d1, k1, k2, k3, k4, k5, k6, k7, k8⟩ := setCells_heap w.heap.size 154 (0, 0) vs (i * 4) (w.alloc (.cells ROW 154)).drew ROW hal
      obtain ⟨d2, l1, l2, l3, l4, l5, l6, l7, l8⟩ := setCells_heap w.heap.size 154 (0, 0) (cs.drop (i * 4)) ((i + m) * 4) (((w.alloc (.cells ROW 154)).drew.setCells w.heap.size (i * 4) vs).drew) d1 k1
      have hdl : (cs.drop (i * 4)).length = (n - i) * 4 := by rw [List.length_drop, hcl]; omega
      have hd2 : ∀ j, j < (n + m) * 4 → d2[j]? = if j < i * 4 then cs[j]? else if j < (i + m) * 4 then vs[j - i * 4]? else cs[j - m * 4]? := by
        intro j hj
        rw [l8 j, k8 j, hdl, hvl, k2, g2]
        by_cases j1 : j < i * 4
        · rw [if_pos j1, if_neg (by omega), if_neg (by omega), g3 j j1]
        · rw [if_neg j1]
          by_cases j2 : j < (i + m) * 4
          · rw [if_pos j2, if_neg (by omega), if_pos (by omega)]
          · rw [if_neg j2, if_pos (by omega), List.getElem?_drop]
            congr 1
            omega
      have hbt : b ≤ top := by have := g.below b hDb; have := g.lim; omega
      have hbw : Below w.heap.size w ((((w.alloc (.cells ROW 154)).drew.setCells w.heap.size (i * 4) vs).drew).setCells w.heap.size ((i + m) * 4) (cs.drop (i * 4))) := by
        refine ⟨l5.trans k5, l6.trans k6, l7.trans k7, ?_, fun x hx => ?_⟩
        · rw [l4]
          show _ ≤ ((w.alloc (.cells ROW 154)).drew.setCells w.heap.size (i * 4) vs).heap.size
          rw [k4]
          show _ ≤ (w.alloc (.cells ROW 154)).heap.size
          rw [alloc_size]; omega
        · rw [l3 x (by omega)]
          show ((w.alloc (.cells ROW 154)).drew.setCells w.heap.size (i * 4) vs).heap[x]? = _
          rw [k3 x (by omega)]
          exact Below.heap_alloc w _ x hx
      have hx : Ext σ D (upd σ s.nx ⟨w.heap.size, d2.size⟩) (plus D s.nx) := ext_upd g.fresh
      have hnb := (new_of hz).2.1
      have hnx : (s.put b .gone).nx = s.nx := rfl
      rw [hnx] at hnb
      have hgood := (g.gone hbt).place hbw (n := d2.size) (ob := .cells d2 154 (0, 0)) hz (Nat.le_refl _) l1 ⟨rfl, rfl, by rw [hlen]; simp only; rw [l2, k2, g2]; omega, (fun h => by cases h), hcell d2 hd2 hx, honA hx, (fun j _ _ h => by simp at h), fun _ => .inl rfl⟩
      refine ⟨_, _, ?_, hgood, hx, by simp only [On, hnb]; exact .inr rfl⟩
      simp only [conc, capOf, hnb, hnx, upd_same, l2, k2, g2, Nat.sub_zero]
      rw [Nat.mul_div_cancel _ (by omega)]
  · cases h
end
end Go.Ev
