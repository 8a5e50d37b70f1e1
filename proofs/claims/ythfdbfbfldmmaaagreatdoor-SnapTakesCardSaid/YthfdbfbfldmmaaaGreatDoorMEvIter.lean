/-
  A walk over a map, where there is no choice: it has at most one entry that was not met yet.
-/
import Derived.Test.YthfdbfbfldmmaaaGreatDoorMEvOps12
set_option linter.unusedVariables false
set_option linter.unusedSimpArgs false
set_option linter.unusedVariables false
set_option linter.unusedSimpArgs false
namespace Go.Ev
open Go.RowKit (Below)
section
variable {B : World} {F : Nat → Option Obj} {σ : Sig} {D : Nat → Prop} {s : St} {w : World}
theorem iterAt_of {b : Nat} {i : Itr} (h : s.iterAt b = some i) : s.h.get b = some (.iter i) := by
  have ⟨o, h1, h2⟩ := oB_of h
  cases o <;> first | (cases h2; done) | skip
  simp only [isIter, Option.some.injEq] at h2
  subst h2
  exact h1
theorem newIter_of {m : Option Nat} {c : Nat} {a : AN} (g : Good B F σ D s w) (h : newIter s m c = some a) (hm : ∀ b, m = some b → D b) :
    ∃ v s', a = .val v s' ∧ ∃ σ' D', v = .ptr s.nx 0 ∧ (σ' s.nx).b = w.heap.size ∧ Good B F σ' D' s' (w.alloc (.mapIter (m.map fun b => (σ b).b) c #[] c)) ∧ Ext σ D σ' D' ∧ On D' v := by
  (have ⟨p, h1, hNew⟩ := oB_of h; replace h := hNew; clear hNew)
  cases h
  obtain ⟨b, s'⟩ := p
  obtain ⟨_, hb, _⟩ := new_of h1
  have hext : Ext σ D (upd σ s.nx ⟨w.heap.size, 0⟩) (plus D s.nx) := ext_upd g.fresh
  refine ⟨_, _, rfl, upd σ s.nx ⟨w.heap.size, 0⟩, plus D s.nx, by simp only [hb], by simp, ?_, hext, ?_⟩
  · refine g.new h1 ⟨?_, rfl, rfl, rfl, fun b hb => .inl (hm b hb)⟩
    cases m with
    | none => rfl
    | some b => simp only [Option.map_some, hext.same b (hm b rfl)]
  · simp only [On, hb]; exact .inr rfl
theorem rangeMapA_of {t : TypeId} {x : AV} {a : AN} (g : Good B F σ D s w) (h : rangeMapA s t x = some a) (hx : On D x) : ∃ v s', a = .val v s' ∧ Res B F σ D w (Instr.range t (conc σ x)) v s' := by
  (have ⟨ke, h1, hNew⟩ := oB_of h; replace h := hNew; clear hNew)
  have hu := uMap_of h1
  split at h
  · obtain ⟨v, s', rfl, σ', D', rfl, hb, g', e, o⟩ := newIter_of g h (fun b hb => by cases hb)
    refine ⟨_, _, rfl, σ', D', _, ?_, g', e, o⟩
    simp only [Instr.range, Sem.run_bind, run_underlying hu, Result.andThen_ok, conc, hb, Sem.run_pure]
    simp
  · rename_i b
    (have ⟨m, hm, hNew⟩ := oB_of h; replace h := hNew; clear hNew)
    obtain ⟨_, _, ces, e1, _, _⟩ := g.map hm
    obtain ⟨v, s', rfl, σ', D', rfl, hb, g', e, o⟩ := newIter_of g h (fun c hc => by cases hc; exact hx)
    refine ⟨_, _, rfl, σ', D', _, ?_, g', e, o⟩
    simp only [Instr.range, Sem.run_bind, run_underlying hu, Result.andThen_ok, conc, hb, Sem.run_pure, get_map e1]
    simp
  · cases h
theorem hasNat_eq (f : Nat) : ∀ l : List Nat, hasNat f l = l.contains f
  | [] => rfl
  | a :: l => by
    show ifB (Nat.beq f a) true (hasNat f l) = _
    rw [hasNat_eq f l, List.contains_cons, nbeq]
    by_cases h : f = a
    · simp [h]
    · simp [h]
theorem leftA_eq (seen : List Nat) : ∀ es : List (AV × AV × Nat), leftA seen es = es.filter fun e => !seen.contains e.2.2
  | [] => rfl
  | e :: es => by
    show ifB (hasNat e.2.2 seen) (leftA seen es) (e :: leftA seen es) = _
    rw [leftA_eq seen es, hasNat_eq, List.filter_cons]
    cases seen.contains e.2.2 <;> rfl
theorem anyBelow_eq (last : Nat) : ∀ es : List (AV × AV × Nat), anyBelow last es = es.any fun e => decide (e.2.2 < last)
  | [] => rfl
  | e :: es => by
    show ifB (Nat.blt e.2.2 last) true (anyBelow last es) = _
    rw [anyBelow_eq last es, List.any_cons, nblt]
    by_cases h : e.2.2 < last
    · simp [h]
    · simp [h]
theorem left_of {ces : Array MapEntry} {es : List (AV × AV × Nat)} {seen : Array Nat} {sl : List Nat} (he : ces.toList = es.map (entry σ)) (hs : seen.toList = sl) :
    (ces.filter fun e => !seen.contains e.born) = ((leftA sl es).map (entry σ)).toArray := by
  apply Array.ext'
  rw [Array.toList_filter, he, List.filter_map, leftA_eq]
  congr 1
  apply List.filter_congr
  intro e _
  simp only [Function.comp, entry, ← hs]
  congr 1
  simp
theorem ok_of {ces : Array MapEntry} {es : List (AV × AV × Nat)} {seen : Array Nat} {sl : List Nat} {last : Nat} (he : ces.toList = es.map (entry σ)) (hs : seen.toList = sl) (h : nextOk sl last es = true) :
    (!seen.isEmpty && !ces.isEmpty && ces.all (fun e => decide (e.born ≥ last))) = false := by
  obtain ⟨seen⟩ := seen
  obtain ⟨ces⟩ := ces
  simp only at he hs
  subst hs
  subst he
  cases hsl : seen with
  | nil => simp
  | cons x r =>
    cases hes : es with
    | nil => simp
    | cons e r' =>
      rw [hsl, hes] at h
      replace h : anyBelow last (e :: r') = true := h
      rw [anyBelow_eq, List.any_eq_true] at h
      obtain ⟨y, hy, hlt⟩ := h
      rw [Bool.and_eq_false_iff]
      right
      rw [Array.all_eq_false]
      obtain ⟨k, hk, hky⟩ := List.getElem_of_mem hy
      refine ⟨k, by simpa using hk, ?_⟩
      simp only [List.getElem_toArray, List.getElem_map, hky, entry]
      simpa using hlt
theorem nextMapA_of {it : AV} {ty : TypeId} {a : AN} (g : Good B F σ D s w) (h : nextMapA s it = some a) : ∃ v s', a = .val v s' ∧ Res B F σ D w (Instr.next (conc σ it) false ty) v s' := by
  (have ⟨p, h1, hNew⟩ := oB_of h; replace h := hNew; clear hNew)
  obtain ⟨r, o⟩ := p
  cases it <;> first | (cases h1; done) | skip
  simp only [isPtr, Option.some.injEq, Prod.mk.injEq] at h1
  obtain ⟨rfl, rfl⟩ := h1
  rename_i r o
  cases o with
  | succ o => cases h
  | zero =>
  replace h : oB (s.iterAt r) (nextOf s r) = some a := h
  (have ⟨i, hi, hNew⟩ := oB_of h; replace h := hNew; clear hNew)
  have hget := iterAt_of hi
  obtain ⟨hd, ob, hob, rel⟩ := g.heap r _ hget (by simp)
  cases ob <;> simp only [ORel] at rel
  rename_i m' since seen last
  obtain ⟨r1, r2, r3, r4, r5⟩ := rel
  have hgo : (getObj (σ r).b).run PP w = .ok (.mapIter m' since seen last) w := by simp [getObj, Sem.run, hob]
  unfold nextOf at h
  split at h
  · rename_i hm
    cases h
    rw [hm] at r1
    simp only [Option.map_none] at r1
    subst r1
    refine ⟨_, _, rfl, Res.pure g ⟨?_, by simp [On, OnL]⟩⟩
    simp only [Instr.next, conc, Sem.run_bind, hgo, Result.andThen_ok]
    simp [concL, conc]
  · rename_i b hm
    (have ⟨m, h2, hNew⟩ := oB_of h; replace h := hNew; clear hNew)
    (have ⟨hok, hNew⟩ := gd_of h; replace h := hNew; clear hNew)
    rw [hm] at r1
    simp only [Option.map_some] at r1
    subst r1
    obtain ⟨_, _, ces, e1, e2, e3⟩ := g.map h2
    have hleft := left_of (σ := σ) e2 r3
    have hokm := ok_of (σ := σ) e2 r3 hok
    rw [← r4] at hokm
    cases hl : leftA i.seen m.1 with
    | nil =>
      rw [hl] at h hleft
      cases h
      refine ⟨_, _, rfl, Res.pure g ⟨?_, by simp [On, OnL]⟩⟩
      simp only [Instr.next, conc, Sem.run_bind, hgo, Result.andThen_ok, get_map e1, hokm, hleft]
      simp [concL, conc, Question.forced]
    | cons e rest =>
      rw [hl] at h hleft
      cases rest with
      | cons e' rest => cases h
      | nil =>
        replace h : gd (Nat.blt e.2.2 i.since) (some (AN.val (.tup [.bool true, e.1, e.2.1]) (s.put r (.iter ⟨some b, i.since, appL i.seen [e.2.2], m.2⟩)))) = some a := h
        (have ⟨hlt, hNew⟩ := gd_of h; replace h := hNew; clear hNew)
        cases h
        have hlt : e.2.2 < since := by rw [r2]; simpa [nblt] using hlt
        have hmem : e ∈ m.1 := by
          have : e ∈ leftA i.seen m.1 := by rw [hl]; exact List.mem_cons_self
          rw [leftA_eq] at this
          exact (List.mem_filter.1 this).1
        have hsz := (Array.getElem?_eq_some_iff.1 hob).1
        refine ⟨_, _, rfl, σ, D, { w with heap := w.heap.setIfInBounds (σ r).b (.mapIter (some (σ b).b) since (seen.push e.2.2) m.2) }, ?_, g.put ⟨_, hget, by simp⟩ (ob := .mapIter (some (σ b).b) since (seen.push e.2.2) m.2) ⟨rfl, r2, by simp [r3, appL_eq], rfl, fun c hc => by cases hc; exact r5 b hm⟩ rfl rfl rfl (by simp) (by simp [hsz]) (fun j hj => Array.getElem?_setIfInBounds_ne (Ne.symm hj)), Ext.refl _ _, by simp only [On, OnL]; exact ⟨trivial, (e3 e hmem).1, (e3 e hmem).2, trivial⟩⟩
        have hst : (setObj (σ r).b (.mapIter (some (σ b).b) since (seen.push e.2.2) m.2)).run PP w = .ok () { w with heap := w.heap.setIfInBounds (σ r).b (.mapIter (some (σ b).b) since (seen.push e.2.2) m.2) } := by simp [setObj, Sem.run, hob]
        simp only [Instr.next, conc, Sem.run_bind, hgo, Result.andThen_ok, get_map e1, hokm, hleft]
        have hge : ¬ since ≤ e.2.2 := by omega
        simp [concL, conc, Question.forced, entry, hlt, hge, hst]
end
end Go.Ev
