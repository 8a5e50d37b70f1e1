/-
  Maps.
-/
import Derived.Test.YthfdbfbfldmmaaaGreatDoorMEvOps6
set_option linter.unusedVariables false
set_option linter.unusedSimpArgs false
set_option linter.unusedVariables false
set_option linter.unusedSimpArgs false
namespace Go.Ev
open Go.RowKit (Below)
section
variable {B : World} {F : Nat → Option Obj} {σ : Sig} {D : Nat → Prop} {s : St} {w : World}
theorem get_map {w : World} {r : Nat} {es : Array MapEntry} {clock : Nat} (hb : w.heap[r]? = some (.map es clock)) : (getObj r).run PP w = .ok (.map es clock) w := by
  simp [getObj, Sem.run, hb]
theorem set_map {w : World} {r : Nat} {es : Array MapEntry} {clock : Nat} (o : Obj) (hb : w.heap[r]? = some (.map es clock)) : (setObj r o).run PP w = .ok () { w with heap := w.heap.setIfInBounds r o } := by
  simp [setObj, Sem.run, hb]
theorem sameKey_of {d : TypeDesc} {k k' : AV} {r : Bool} (h : sameKey d k k' = some r) : Instr.sameNow d (conc σ k) (conc σ k') = some r := by
  unfold sameKey at h
  split at h
  · split at h
    · rename_i hk; cases h; subst hk; simp [Instr.sameNow, conc, eqA_eq]; rfl
    · cases h
  · cases h; simp [Instr.sameNow, conc, eqBytes_eq, str_beq]
  · cases h; simp [Instr.sameNow, conc]
  · cases h
theorem sameKey_key {d : TypeDesc} {k k' : AV} {r : Bool} (h : sameKey d k k' = some r) {kt : TypeId} (hd : PP.underlying kt = some d) (e : Bool) (n : Nat) (w : World) : (Instr.checkKey e (n + 1) kt (conc σ k)).run PP w = .ok () w := by
  unfold sameKey at h
  unfold Instr.checkKey
  simp only [Sem.run_bind, run_underlying hd, Result.andThen_ok]
  split at h <;> first | rfl | cases h
theorem sameKey_bits {d : TypeDesc} {k k' : AV} (h : sameKey d k k' = some true) (n : Nat) : Instr.sameBits n (conc σ k') (conc σ k) = true := by
  unfold sameKey at h
  split at h
  · split at h
    · rename_i hk; subst hk
      simp only [Option.some.injEq, eqA_eq, decide_eq_true_eq] at h
      subst h
      cases n <;> simp [Instr.sameBits, conc]
    · cases h
  · simp only [Option.some.injEq, eqBytes_eq, beq_iff_eq] at h
    subst h
    cases n <;> simp [Instr.sameBits, conc, str_beq]
  · simp only [Option.some.injEq, beq_iff_eq] at h
    subst h
    cases n <;> simp [Instr.sameBits, conc]
  · cases h
theorem findA_of {d : TypeDesc} {k : AV} : ∀ {es : List (AV × AV × Nat)} {i : Nat} {r : Option (Nat × AV)}, findA d k es i = some r →
    Instr.findNow d (conc σ k) (es.map (entry σ)) i = some (r.map fun p => (p.1, conc σ p.2)) ∧ ∀ p, r = some p → i ≤ p.1 ∧ ∃ e, es[p.1 - i]? = some e ∧ p.2 = e.2.1 ∧ sameKey d k e.1 = some true
  | [], i, r, h => by cases h; simp [Instr.findNow]
  | e :: es, i, r, h => by
    replace h : (oB (sameKey d k e.1) fun r => ifB r (some (some (i, e.2.1))) (findA d k es (i + 1))) = some r := h
    (have ⟨q, h1, hNew⟩ := oB_of h; replace h := hNew; clear hNew)
    have h2 := sameKey_of (σ := σ) h1
    have he : (entry σ e).key = conc σ e.1 := rfl
    cases q with
    | true =>
      rw [ifB_true] at h
      cases h
      refine ⟨by simp [Instr.findNow, h2, entry], fun p hp => ?_⟩
      cases hp
      exact ⟨Nat.le_refl _, e, by simp, rfl, h1⟩
    | false =>
      rw [ifB_false] at h
      obtain ⟨h3, h4⟩ := findA_of h
      refine ⟨by simp [Instr.findNow, he, h2, h3], fun p hp => ?_⟩
      obtain ⟨h5, e', h6, h7⟩ := h4 p hp
      refine ⟨by omega, e', ?_, h7⟩
      rw [show p.1 - i = (p.1 - (i + 1)) + 1 by omega, List.getElem?_cons_succ]
      exact h6
theorem Good.map (g : Good B F σ D s w) {b : Nat} {m : List (AV × AV × Nat) × Nat} (h : s.mapAt b = some m) :
    D b ∧ alive s b ∧ ∃ ces, w.heap[(σ b).b]? = some (.map ces m.2) ∧ ces.toList = m.1.map (entry σ) ∧ ∀ e ∈ m.1, On D e.1 ∧ On D e.2.1 := by
  have ha := mapAt_of h
  obtain ⟨hd, ob, h1, h2⟩ := g.heap b _ ha (by simp)
  cases ob <;> simp only [ORel] at h2
  obtain ⟨rfl, h3, h4⟩ := h2
  exact ⟨hd, ⟨_, ha, by simp⟩, _, h1, h3, h4⟩
theorem lookupA_of {t : TypeId} {x k v : AV} {ok : Bool} (g : Good B F σ D s w) (h : lookupA s t x k ok = some v) :
    (Instr.lookup t (conc σ x) (conc σ k) ok).run PP w = .ok (conc σ v) w ∧ On D v := by
  (have ⟨ke, h1, hNew⟩ := oB_of h; replace h := hNew; clear hNew)
  (have ⟨d, h2, hNew⟩ := oB_of h; replace h := hNew; clear hNew)
  (have ⟨z, h3, hNew⟩ := oB_of h; replace h := hNew; clear hNew)
  (have ⟨es, h4, hNew⟩ := oB_of h; replace h := hNew; clear hNew)
  (have ⟨q, h5, hNew⟩ := oB_of h; replace h := hNew; clear hNew)
  (have ⟨r, h6, hNew⟩ := oB_of h; replace h := hNew; clear hNew)
  cases h
  have hu := uMap_of h1
  obtain ⟨_, _, _, hz⟩ := zeroA_of (σ := σ) (D := D) h3
  obtain ⟨h7, h8⟩ := findA_of (σ := σ) h6
  have hck : ∀ e, (Instr.checkKey e 10000 ke.1 (conc σ k)).run PP w = .ok () w := fun e => sameKey_key (σ := σ) h5 h2 e 9999 w
  have hf : ∀ ces : Array MapEntry, ces.toList = es.map (entry σ) → (Instr.findKey ke.1 (conc σ k) ces.toList).run PP w = .ok (r.map fun p => (p.1, conc σ p.2)) w := by
    intro ces e2
    simp [Instr.findKey, run_underlying h2, e2, h7]
  have hon : (∀ e ∈ es, On D e.1 ∧ On D e.2.1) → ∀ p, r = some p → On D p.2 := by
    intro e3 p hp
    obtain ⟨_, e, he, hv, _⟩ := h8 p hp
    rw [hv]
    exact (e3 e (List.mem_of_getElem? he)).2
  have hz' := zeroA_run h3 σ w
  unfold entriesA at h4
  split at h4
  · cases h4
    have hf' := hf #[] rfl
    simp only [Instr.lookup, Sem.run_bind, run_underlying hu, Result.andThen_ok, conc]
    cases r with
    | none =>
      refine ⟨?_, by cases ok <;> simp [lookA, On, OnL, hz]⟩
      cases ok <;> simp [lookA, hz', conc, concL, hck, hf']
    | some p =>
      obtain ⟨_, e, he, _⟩ := h8 p rfl
      simp at he
  · (have ⟨m, hm, hNew⟩ := oB_of h4; replace h4 := hNew; clear hNew)
    cases h4
    obtain ⟨_, _, ces, e1, e2, e3⟩ := g.map hm
    have hf' := hf ces e2
    simp only [Instr.lookup, Sem.run_bind, run_underlying hu, Result.andThen_ok, conc, get_map e1]
    cases r with
    | none =>
      refine ⟨?_, by cases ok <;> simp [lookA, On, OnL, hz]⟩
      cases ok <;> simp [lookA, hz', conc, concL, hck, hf']
    | some p =>
      have := hon e3 p rfl
      refine ⟨?_, by cases ok <;> simp [lookA, On, OnL, this]⟩
      cases ok <;> simp [lookA, conc, concL, hck, hf']
  · cases h4
theorem setNth_eq {α : Type} : ∀ (l : List α) (k : Nat) (x : α), setNth l k x = l.set k x
  | [], _, _ => by simp [setNth]
  | _ :: _, 0, _ => by simp [setNth]
  | a :: l, k + 1, x => by simp [setNth, setNth_eq l k x]
theorem eraseIdx_map {α β : Type} (f : α → β) : ∀ (l : List α) (k : Nat), (l.map f).eraseIdx k = (l.eraseIdx k).map f
  | [], _ => by simp
  | _ :: _, 0 => by simp
  | a :: l, k + 1 => by simp [eraseIdx_map f l k]
theorem dropNth_eq {α : Type} : ∀ (l : List α) (k : Nat), dropNth l k = l.eraseIdx k
  | [], _ => by simp [dropNth]
  | _ :: _, 0 => by simp [dropNth]
  | a :: l, k + 1 => by simp [dropNth, dropNth_eq l k]
theorem Good.setMap (g : Good B F σ D s w) {b : Nat} {m : List (AV × AV × Nat) × Nat} (h : s.mapAt b = some m) {es : List (AV × AV × Nat)} {c : Nat} {ces : Array MapEntry}
    (he : ces.toList = es.map (entry σ)) (hon : ∀ e ∈ es, On D e.1 ∧ On D e.2.1) :
    (setObj (σ b).b (.map ces c)).run PP w = .ok () { w with heap := w.heap.setIfInBounds (σ b).b (.map ces c) } ∧ Good B F σ D (s.put b (.map es c)) { w with heap := w.heap.setIfInBounds (σ b).b (.map ces c) } := by
  obtain ⟨_, ha, ces0, e1, _, _⟩ := g.map h
  refine ⟨set_map _ e1, g.put ha (ob := .map ces c) ⟨rfl, he, hon⟩ rfl rfl rfl (by simp) ?_ ?_⟩
  · have := (Array.getElem?_eq_some_iff.1 e1).1
    simp [this]
  · intro i hi
    exact Array.getElem?_setIfInBounds_ne (Ne.symm hi)
theorem mapUpdateA_of {t : TypeId} {x k v : AV} {s' : St} (g : Good B F σ D s w) (h : mapUpdateA s t x k v = some s') (hk : On D k) (hv : On D v) :
    ∃ w', (Instr.mapUpdate t (conc σ x) (conc σ k) (conc σ v)).run PP w = .ok () w' ∧ Good B F σ D s' w' := by
  (have ⟨ke, h1, hNew⟩ := oB_of h; replace h := hNew; clear hNew)
  (have ⟨d, h2, hNew⟩ := oB_of h; replace h := hNew; clear hNew)
  have hu := uMap_of h1
  split at h
  · rename_i b
    (have ⟨m, h3, hNew⟩ := oB_of h; replace h := hNew; clear hNew)
    (have ⟨q, h5, hNew⟩ := oB_of h; replace h := hNew; clear hNew)
    (have ⟨r, h6, hNew⟩ := oB_of h; replace h := hNew; clear hNew)
    obtain ⟨h7, h8⟩ := findA_of (σ := σ) h6
    obtain ⟨_, ha, ces, e1, e2, e3⟩ := g.map h3
    have hck : ∀ e, (Instr.checkKey e 10000 ke.1 (conc σ k)).run PP w = .ok () w := fun e => sameKey_key (σ := σ) h5 h2 e 9999 w
    have hf : (Instr.findKey ke.1 (conc σ k) ces.toList).run PP w = .ok (r.map fun p => (p.1, conc σ p.2)) w := by
      simp [Instr.findKey, run_underlying h2, e2, h7]
    simp only [Instr.mapUpdate, Sem.run_bind, run_underlying hu, Result.andThen_ok, conc, get_map e1, hck, hf]
    cases r with
    | none =>
      cases h
      obtain ⟨k1, k2⟩ := g.setMap h3 (es := m.1 ++ [(k, v, m.2)]) (c := m.2 + 1) (ces := ces.push ⟨conc σ k, conc σ v, m.2⟩) (by simp [e2, entry])
        (fun e he => by
          rcases List.mem_append.1 he with he | he
          · exact e3 e he
          · simp at he; subst he; exact ⟨hk, hv⟩)
      exact ⟨_, k1, k2⟩
    | some p =>
      replace h : (oB (nth m.1 p.1) fun e => some (s.put b (.map (setNth m.1 p.1 (k, v, e.2.2)) m.2))) = some s' := h
      (have ⟨e, he, hNew⟩ := oB_of h; replace h := hNew; clear hNew)
      cases h
      obtain ⟨_, e', he', _, hsame⟩ := h8 p rfl
      rw [nth_eq] at he
      simp only [Nat.sub_zero] at he'
      rw [he] at he'
      cases he'
      have hold : ces[p.1]? = some (entry σ e) := by
        rw [← Array.getElem?_toList, e2, List.getElem?_map, he]; rfl
      have hbits := sameKey_bits (σ := σ) hsame 10000
      obtain ⟨k1, k2⟩ := g.setMap h3 (es := setNth m.1 p.1 (k, v, e.2.2)) (c := m.2) (ces := ces.modify p.1 fun e => { e with key := conc σ k, val := conc σ v })
        (by
          rw [setNth_eq, Array.toList_modify, e2]
          apply List.ext_getElem?
          intro i
          simp only [List.getElem?_modify, List.getElem?_map, List.getElem?_set]
          by_cases hi : p.1 = i
          · subst hi
            obtain ⟨this, hge⟩ := List.getElem?_eq_some_iff.1 he
            simp [this, entry, hge]
          · simp [hi])
        (fun e' he' => by
          rw [setNth_eq] at he'
          rcases List.mem_or_eq_of_mem_set he' with he' | rfl
          · exact e3 e' he'
          · exact ⟨hk, hv⟩)
      refine ⟨_, ?_, k2⟩
      simp only [Option.map_some, hold, Option.getD_some, Instr.keyThatStays, show (entry σ e).key = conc σ e.1 from rfl, hbits, if_true, Sem.run_bind, Sem.run_pure, Result.andThen_ok]
      exact k1
  · cases h
theorem deleteA_of {t ty : TypeId} {ts : List TypeId} {x k : AV} {s' : St} (g : Good B F σ D s w) (h : deleteA s t x k = some s') :
    ∃ w', (Builtin.delete_ (t :: ts).toArray ty #[conc σ x, conc σ k]).run PP w = .ok (.tuple #[]) w' ∧ Good B F σ D s' w' := by
  (have ⟨ke, h1, hNew⟩ := oB_of h; replace h := hNew; clear hNew)
  (have ⟨d, h2, hNew⟩ := oB_of h; replace h := hNew; clear hNew)
  (have ⟨q, h5, hNew⟩ := oB_of h; replace h := hNew; clear hNew)
  have hu := uMap_of h1
  have hck : ∀ e, (Instr.checkKey e 10000 ke.1 (conc σ k)).run PP w = .ok () w := fun e => sameKey_key (σ := σ) h5 h2 e 9999 w
  split at h
  · rename_i b
    (have ⟨m, h3, hNew⟩ := oB_of h; replace h := hNew; clear hNew)
    (have ⟨r, h6, hNew⟩ := oB_of h; replace h := hNew; clear hNew)
    cases h
    obtain ⟨h7, h8⟩ := findA_of (σ := σ) h6
    obtain ⟨_, ha, ces, e1, e2, e3⟩ := g.map h3
    have hf : (Instr.findKey ke.1 (conc σ k) ces.toList).run PP w = .ok (r.map fun p => (p.1, conc σ p.2)) w := by
      simp [Instr.findKey, run_underlying h2, e2, h7]
    have he0 : (t :: ts).toArray[0]? = some t := by simp
    cases r with
    | none =>
      refine ⟨{ w with heap := w.heap.setIfInBounds (σ b).b (.map ces m.2) }, ?_, ?_⟩
      · simp [Builtin.delete_, run_underlying hu, conc, get_map e1, hck, hf, set_map _ e1]
      · refine g.world ?_ rfl rfl rfl
        simp only
        apply Array.ext_getElem?
        intro i
        by_cases hi : (σ b).b = i
        · subst hi
          have := (Array.getElem?_eq_some_iff.1 e1).1
          simp [this]
          exact ((Array.getElem?_eq_some_iff.1 e1).2).symm
        · exact Array.getElem?_setIfInBounds_ne hi
    | some p =>
      obtain ⟨_, e', he', _, hsame⟩ := h8 p rfl
      simp only [Nat.sub_zero] at he'
      obtain ⟨k1, k2⟩ := g.setMap h3 (es := dropNth m.1 p.1) (c := m.2) (ces := ces.eraseIdxIfInBounds p.1)
        (by
          rw [dropNth_eq, Array.toList_eraseIdxIfInBounds, e2, eraseIdx_map])
        (fun e he => by
          rw [dropNth_eq] at he
          exact e3 e (List.mem_of_mem_eraseIdx he))
      refine ⟨_, ?_, k2⟩
      simp [Builtin.delete_, run_underlying hu, conc, get_map e1, hck, hf, k1]
  · cases h
    refine ⟨w, ?_, g⟩
    simp [Builtin.delete_, run_underlying hu, conc, hck]
  · cases h
end
end Go.Ev
