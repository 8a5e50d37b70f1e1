/-
  Cells read, written and made.
-/
import Derived.Test.YthfdbfbfldmmaaaGreatDoorMEvOps5
import Derived.Great.FillDense
set_option linter.unusedVariables false
set_option linter.unusedSimpArgs false
set_option linter.unusedVariables false
set_option linter.unusedSimpArgs false
namespace Go.Ev
open Go.RowKit (Below)
section
variable {B : World} {F : Nat → Option Obj} {σ : Sig} {D : Nat → Prop} {s : St} {w : World}
theorem loadA_of {t : TypeId} {a v : AV} (g : Good B F σ D s w) (h : loadA s t a = some v) : (Instr.loadAt t (conc σ a)).run PP w = .ok (conc σ v) w ∧ On D v := by
  (have ⟨p, h1, hNew⟩ := oB_of h; replace h := hNew; clear hNew)
  (have ⟨r, h2, hNew⟩ := oB_of h; replace h := hNew; clear hNew)
  rw [isPtr_of h1]
  (have ⟨gb, h3, hNew⟩ := oB_of h; replace h := hNew; clear hNew)
  cases gb with
  | true =>
    rw [ifB_true] at h
    (have ⟨n, h4, hNew⟩ := oB_of h; replace h := hNew; clear hNew)
    (have ⟨l, h5, hNew⟩ := oB_of h; replace h := hNew; clear hNew)
    cases h
    obtain ⟨h6, h7, _⟩ := g.loads h2 h5
    refine ⟨?_, by simpa [On] using h7⟩
    simp [Instr.loadAt, Instr.sureAddr, conc, loadVar, isAggB_of h3, sizeA_of h4, h6]
  | false =>
    rw [ifB_false, nth_eq] at h
    obtain ⟨h6, h7⟩ := g.cell h2 h
    refine ⟨?_, h7⟩
    simp [Instr.loadAt, Instr.sureAddr, conc, loadVar, isAggB_of h3, h6]
theorem storeA_of {t : TypeId} {a v : AV} {s' : St} (g : Good B F σ D s w) (h : storeA s t a v = some s') (hv : On D v) :
    ∃ w', (Instr.storeAt t (conc σ a) (conc σ v)).run PP w = .ok () w' ∧ Good B F σ D s' w' := by
  (have ⟨p, h1, hNew⟩ := oB_of h; replace h := hNew; clear hNew)
  (have ⟨n, h2, hNew⟩ := oB_of h; replace h := hNew; clear hNew)
  (have ⟨h3, hNew⟩ := gd_of h; replace h := hNew; clear hNew)
  rw [isPtr_of h1]
  obtain ⟨w', h4, h5, _⟩ := g.write h (cells_on hv)
  refine ⟨w', ?_, h5⟩
  have h3' : v.cells.length = n := by simpa [nbeq, lenL_eq] using h3
  have hsz : (conc σ v).cells.size = n := by rw [cells_conc]; simp [concL_length, h3']
  simp only [Instr.storeAt, Instr.sureAddr, conc, storeVar, Sem.run_bind, Sem.run_pure, Result.andThen_ok, sizeA_of h2, hsz, ne_eq, not_true, if_false]
  rw [cells_conc]
  simpa using h4
theorem row_new (g : Good B F σ D s w) {c : List AV} {e : TypeId} {opn : Bool} {fz : Nat} {sg : Bool} {fr : Nat × Nat} {arr : Array Value} {b : Nat} {s' : St}
    (h : s.new (.cells ⟨c, e, opn, fz, sg⟩) = some (b, s')) (hc : OnL D c) (ha : ∃ r, arr.toList = concL σ c ++ r ∧ (opn = false → r = []))
    (hf1 : ∀ i : Nat, i < arr.size → fr.1 ≤ i → i < fr.2 → i < fz) (hf2 : sg = false → fr.1 = fr.2 ∨ fr.2 ≤ fz) :
    ∃ σ' D', Ext σ D σ' D' ∧ σ' b = ⟨w.heap.size, arr.size⟩ ∧ D' b ∧ Good B F σ' D' s' (w.alloc (.cells arr e fr)) := by
  obtain ⟨_, hb, _⟩ := new_of h
  have hext : Ext σ D (upd σ s.nx ⟨w.heap.size, arr.size⟩) (plus D s.nx) := ext_upd g.fresh
  refine ⟨_, _, hext, by rw [hb]; exact upd_same _ _ _, by rw [hb]; exact .inr rfl, g.new h ?_⟩
  obtain ⟨r, hr, hop⟩ := ha
  have hlen : arr.size = c.length + r.length := by rw [← Array.length_toList, hr]; simp [concL_length]
  refine ⟨rfl, rfl, by simp only; omega, fun ho => by simp only at ho ⊢; rw [hlen, hop ho]; simp, fun i v hi => ?_, hext.onL hc, hf1, hf2⟩
  have : arr[i]? = (concL σ c ++ r)[i]? := by rw [← hr]; simp
  have hi' : i < c.length := (List.getElem?_eq_some_iff.1 hi).1
  rw [this, List.getElem?_append_left (by rw [concL_length]; exact hi'), concL_eq, List.getElem?_map]
  simp only at hi
  rw [hi, hext.conc ((onL_iff _ _).1 hc v (List.mem_of_getElem? hi))]
  rfl
theorem newCells_of (g : Good B F σ D s w) {c : List AV} {e : TypeId} {p : Nat × St} (h : newCells s c e = some p) (hc : OnL D c) :
    ∃ σ' D' w', Ext σ D σ' D' ∧ D' p.1 ∧ (newRow e (concL σ c).toArray).run PP w = .ok ⟨(σ' p.1).b, 0, none⟩ w' ∧ Good B F σ' D' p.2 w' := by
  obtain ⟨b, s'⟩ := p
  obtain ⟨σ', D', h1, h2, h3, h4⟩ := row_new g (arr := (concL σ c).toArray) (fr := (0, 0)) h hc ⟨[], by simp⟩ (fun i _ _ h => by simp at h) (fun _ => .inl rfl)
  exact ⟨σ', D', _, h1, h3, by rw [h2]; simp [newRow], h4⟩
/-! ### Parts laid into cells -/
theorem foldl_over (off : Nat) (vs : List Value) (cells : Array Value) (h : off + vs.length ≤ cells.size) :
    (vs.toArray.zipIdx.foldl (fun cs (c, j) => cs.setIfInBounds (off + j) c) cells) = (cells.toList.take off ++ vs ++ cells.toList.drop (off + vs.length)).toArray := by
  obtain ⟨g1, g2⟩ := Go.Great.foldl_set off vs 0 cells
  rw [← Array.foldl_toList, Array.toList_zipIdx]
  apply Array.ext_getElem?
  intro k
  have := g2 k
  simp only [Nat.add_zero] at this
  rw [show (List.foldl (fun cs (x : Value × Nat) => cs.setIfInBounds (off + x.2) x.1) cells (vs.zipIdx 0))[k]? = _ from this]
  simp only [List.getElem?_toArray]
  rcases Nat.lt_or_ge k off with hk | hk
  · rw [if_neg (by omega), List.append_assoc, List.getElem?_append_left (by simp; omega), List.getElem?_take_of_lt hk]; simp
  · rcases Nat.lt_or_ge k (off + vs.length) with hj | hj
    · rw [if_pos ⟨hk, hj, by omega⟩, List.append_assoc, List.getElem?_append_right (by simp; omega), List.getElem?_append_left (by simp; omega)]
      simp only [List.length_take, Array.length_toList]
      rw [Nat.min_eq_left (by omega)]
    · rw [if_neg (by omega), List.append_assoc, List.getElem?_append_right (by simp; omega), List.getElem?_append_right (by simp; omega), List.getElem?_drop]
      simp only [List.length_take, Array.length_toList]
      rw [Nat.min_eq_left (by omega), show off + vs.length + (k - off - vs.length) = k by omega]
      simp
theorem fillA_of {place : Nat → Option (Nat × Nat)} : ∀ {ps : List (Nat × AV)} {cells l : List AV}, fillA place ps cells = some l → OnL D cells → (∀ p ∈ ps, On D p.2) →
    Instr.fill place (concL σ cells).toArray (ps.map fun p => (p.1, conc σ p.2)) = some (concL σ l).toArray ∧ OnL D l
  | [], cells, l, h, hc, _ => by cases h; exact ⟨rfl, hc⟩
  | p :: ps, cells, l, h, hc, hp => by
    replace h : (oB (place p.1) fun os => gd (Nat.beq (lenL p.2.cells) os.2) (oB (overwrite cells os.1 p.2.cells) (fillA place ps))) = some l := h
    (have ⟨os, h1, hNew⟩ := oB_of h; replace h := hNew; clear hNew)
    (have ⟨h2, hNew⟩ := gd_of h; replace h := hNew; clear hNew)
    (have ⟨c', h3, hNew⟩ := oB_of h; replace h := hNew; clear hNew)
    obtain ⟨h4, h5, rfl⟩ := (overwrite_some _ _ _ _).1 h3
    have hsz : p.2.cells.length = os.2 := by simpa [nbeq, lenL_eq] using h2
    have hpo := cells_on (hp p (by simp))
    have hon : OnL D (cells.take os.1 ++ p.2.cells ++ cells.drop (os.1 + p.2.cells.length)) := by
      rw [onL_iff] at hc hpo ⊢
      intro v hv
      simp only [List.mem_append] at hv
      rcases hv with (hv | hv) | hv
      · exact hc v (List.mem_of_mem_take hv)
      · exact hpo v hv
      · exact hc v (List.mem_of_mem_drop hv)
    obtain ⟨ih1, ih2⟩ := fillA_of h hon (fun q hq => hp q (by simp [hq]))
    refine ⟨?_, ih2⟩
    have hs2 : (conc σ p.2).cells.size = os.2 := by rw [cells_conc]; simp [concL_length, hsz]
    obtain ⟨o1, o2⟩ := os
    simp only [List.map_cons, Instr.fill, h1]
    simp only at hsz hs2 h5
    rw [if_neg (by rw [hs2]; simp [concL_length]; omega), cells_conc, foldl_over _ _ _ (by simp [concL_length]; omega), ← ih1]
    congr 2
    simp [concL_eq, hsz]
theorem places_of : ∀ {fs : List Field} {ps : List (Nat × Nat)}, places fs = some ps → ∀ w, (fs.mapM (m := Sem) fun f => do pure (f.offset, ← sizeOf f.type)).run PP w = .ok ps w
  | [], ps, h, w => by cases h; simp
  | f :: fs, ps, h, w => by
    unfold places at h
    (have ⟨n, h1, hNew⟩ := oB_of h; replace h := hNew; clear hNew)
    (have ⟨r, h2, hNew⟩ := oB_of h; replace h := hNew; clear hNew)
    cases h
    simp only [List.mapM_cons, Sem.run_bind, sizeA_of h1, Result.andThen_ok, Sem.run_pure, places_of h2]
theorem buildA_of {t : TypeId} {ps : List (Nat × AV)} {v : AV} (h : buildA t ps = some v) (hp : ∀ p ∈ ps, On D p.2) (w : World) :
    (Instr.build t (ps.map fun p => (p.1, conc σ p.2)).toArray).run PP w = .ok (conc σ v) w ∧ On D v := by
  (have ⟨z, h1, hNew⟩ := oB_of h; replace h := hNew; clear hNew)
  (have ⟨fs, h2, hNew⟩ := oB_of h; replace h := hNew; clear hNew)
  (have ⟨pl, h3, hNew⟩ := oB_of h; replace h := hNew; clear hNew)
  (have ⟨l, h4, hNew⟩ := oB_of h; replace h := hNew; clear hNew)
  cases h
  obtain ⟨fa, rfl, hu⟩ := uStruct_of h2
  obtain ⟨_, _, _, hz⟩ := zeroA_of (σ := σ) (D := D) h1
  have e : (fun i => pl.toArray[i]?) = nth pl := by funext i; rw [nth_eq]; simp
  rw [← e] at h4
  obtain ⟨h5, h6⟩ := fillA_of (σ := σ) h4 (cells_on hz) hp
  refine ⟨?_, by simpa [On] using h6⟩
  have hm : (fa.mapM (m := Sem) fun f => do pure (f.offset, ← sizeOf f.type)).run PP w = .ok pl.toArray w := by
    have := places_of h3 w
    rw [Array.mapM_eq_mapM_toList, map_eq_pure_bind]
    simp only [Sem.run_bind, this, Result.andThen_ok, Sem.run_pure]
  simp only [Instr.build, Sem.run_bind, zeroA_run h1 σ, Result.andThen_ok, run_underlying hu, hm, cells_conc, h5, Sem.run_pure, conc]
/-! ### Zeros -/
theorem repeatL_get {α : Type} (l : List α) : ∀ (n i : Nat), (repeatL l n)[i]? = if i < n * l.length then l[i % l.length]? else none
  | 0, i => by rw [show repeatL l 0 = [] from rfl]; simp
  | n + 1, i => by
    have e : repeatL l (n + 1) = l ++ repeatL l n := appL_eq _ _
    rw [e]
    rcases Nat.lt_or_ge i l.length with h | h
    · rw [List.getElem?_append_left h, if_pos (by rw [Nat.add_mul]; omega), Nat.mod_eq_of_lt h]
    · rw [List.getElem?_append_right h, repeatL_get l n]
      have : (i - l.length < n * l.length) ↔ (i < (n + 1) * l.length) := by rw [Nat.add_mul]; omega
      simp only [this]
      rw [← Nat.mod_eq_sub_mod h]
theorem zeros_conc (l : List AV) (h0 : 0 < l.length) (n : Nat) :
    ((Array.range (n * l.length)).map fun i => (concL σ l).toArray[i % (concL σ l).toArray.size]!) = (concL σ (repeatL l n)).toArray := by
  apply Array.ext_getElem?
  intro i
  simp only [List.getElem?_toArray, concL_eq, List.getElem?_map, repeatL_get, List.size_toArray, List.length_map, Array.getElem?_map]
  rcases Nat.lt_or_ge i (n * l.length) with h | h
  · have hm : i % l.length < l.length := Nat.mod_lt _ h0
    rw [if_pos h, Array.getElem?_range]
    simp [h, hm]
  · rw [if_neg (by omega)]
    simp [h]
theorem repeatL_on {l : List AV} (h : OnL D l) : ∀ n, OnL D (repeatL l n)
  | 0 => by rw [show repeatL l 0 = [] from rfl]; simp [OnL]
  | n + 1 => by
    have e : repeatL l (n + 1) = l ++ repeatL l n := appL_eq _ _
    rw [e, onL_append]
    exact ⟨h, repeatL_on h n⟩
theorem zerosA_of {e : TypeId} {n z : Nat} {l : List AV} (hz : sizeA e = some z) (h0 : 0 < z) (h : zerosA e n = some l) (σ : Sig) (D : Nat → Prop) (w : World) :
    ∃ zero, (n * z = 0 → zero = #[]) ∧ (n * z ≠ 0 → ∃ v, (zeroValue e).run PP w = .ok v w ∧ v.cells = zero) ∧ ((Array.range (n * z)).map fun i => zero[i % zero.size]!) = (concL σ l).toArray ∧ OnL D l := by
  cases n with
  | zero =>
    cases h
    exact ⟨#[], by simp, by simp, by simp [concL], by simp [OnL]⟩
  | succ n =>
    replace h : (oB (zeroA e) fun z => oB (sizeA e) fun k => gd (Nat.beq (lenL z.cells) k) (some (repeatL z.cells (n + 1)))) = some l := h
    (have ⟨zv, h1, hNew⟩ := oB_of h; replace h := hNew; clear hNew)
    (have ⟨k, h2, hNew⟩ := oB_of h; replace h := hNew; clear hNew)
    (have ⟨h3, hNew⟩ := gd_of h; replace h := hNew; clear hNew)
    cases h
    rw [hz] at h2
    cases h2
    have hl : zv.cells.length = z := by simpa [nbeq, lenL_eq] using h3
    obtain ⟨_, _, _, hon⟩ := zeroA_of (σ := σ) (D := D) h1
    have hne : (n + 1) * z ≠ 0 := by
      have : 0 < (n + 1) * z := Nat.mul_pos (by omega) h0
      omega
    refine ⟨(concL σ zv.cells).toArray, fun e => absurd e hne, fun _ => ⟨_, zeroA_run h1 σ w, cells_conc zv⟩, ?_, repeatL_on (cells_on hon) _⟩
    rw [← hl]
    exact zeros_conc zv.cells (by omega) (n + 1)
end
end Go.Ev
