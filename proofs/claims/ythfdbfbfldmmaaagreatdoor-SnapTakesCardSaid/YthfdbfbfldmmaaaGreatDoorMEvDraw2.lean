/-
  Of the run of an open region in the one order: what it is digested to.
-/
import Derived.Test.YthfdbfbfldmmaaaGreatDoorMEvDraw1
set_option linter.unusedVariables false
set_option linter.unusedSimpArgs false
set_option linter.unusedVariables false
set_option linter.unusedSimpArgs false
namespace Go.Ev
open Go.RowKit (Below)
theorem bit_eq (m i : Nat) : bit m i = m.testBit i := by
  unfold bit
  rw [nbeq, Nat.testBit_eq_decide_div_mod_eq]
theorem bit_or (a b i : Nat) : bit (a ||| b) i = (bit a i || bit b i) := by simp [bit_eq, Nat.testBit_or]
theorem bit_two (k i : Nat) : bit (2 ^ k) i = decide (k = i) := by rw [bit_eq, Nat.testBit_two_pow]
theorem bit_zero (i : Nat) : bit 0 i = false := by simp [bit_eq]
theorem memNat_iff (t : Nat) : ∀ l : List Nat, memNat t l = true ↔ t ∈ l
  | [] => by simp [memNat]
  | u :: l => by simp [memNat, nbeq, memNat_iff t l]
/-! ### Masks -/
theorem masks_prefix : ∀ (os : List Oper) (ms : List Nat), ∃ r, masks os ms = ms ++ r
  | [], ms => ⟨[], by simp [masks]⟩
  | o :: os, ms => by
    obtain ⟨r, hr⟩ := masks_prefix os (ms ++ [maskOf ms o.after.toList])
    exact ⟨maskOf ms o.after.toList :: r, by simp [masks, hr]⟩
theorem masks_at : ∀ (os : List Oper) (ms : List Nat) (k : Nat) (o : Oper), os[k]? = some o →
    ∃ pre, (∃ r, masks os ms = pre ++ r) ∧ pre.length = ms.length + k ∧ (masks os ms)[ms.length + k]? = some (maskOf pre o.after.toList)
  | [], ms, k, o, h => by simp at h
  | o' :: os, ms, 0, o, h => by
    simp only [List.getElem?_cons_zero, Option.some.injEq] at h
    subst h
    obtain ⟨r, hr⟩ := masks_prefix os (ms ++ [maskOf ms o'.after.toList])
    refine ⟨ms, ⟨maskOf ms o'.after.toList :: r, by simp [masks, hr]⟩, rfl, ?_⟩
    simp [masks, hr]
  | o' :: os, ms, k + 1, o, h => by
    simp only [List.getElem?_cons_succ] at h
    obtain ⟨pre, h1, h2, h3⟩ := masks_at os (ms ++ [maskOf ms o'.after.toList]) k o h
    refine ⟨pre, h1, ?_, ?_⟩
    · simp at h2; omega
    · simp only [List.length_append, List.length_cons, List.length_nil] at h3
      rw [show ms.length + (k + 1) = ms.length + (0 + 1) + k by omega]
      exact h3
theorem maskOf_bit (ms : List Nat) (j : Nat) : ∀ es : List Edge, bit (maskOf ms es) j = true → ∃ e ∈ es, Region.binds .any e = true ∧ (j = e.on ∨ ∃ m, ms[e.on]? = some m ∧ bit m j = true)
  | [], h => by simp [maskOf, bit_zero] at h
  | e :: es, h => by
    unfold maskOf at h
    split at h
    · rename_i hb
      rw [bit_or, bit_or, bit_two, Bool.or_eq_true, Bool.or_eq_true, decide_eq_true_eq] at h
      rcases h with (h | h) | h
      · exact ⟨e, by simp, hb, .inl h.symm⟩
      · rw [nth_eq] at h
        cases hm : ms[e.on]? with
        | none => rw [hm] at h; simp [bit_zero] at h
        | some m => rw [hm] at h; exact ⟨e, by simp, hb, .inr ⟨m, hm, h⟩⟩
      · obtain ⟨e', h1, h2⟩ := maskOf_bit ms j es h
        exact ⟨e', by simp [h1], h2⟩
    · obtain ⟨e', h1, h2⟩ := maskOf_bit ms j es h
      exact ⟨e', by simp [h1], h2⟩
theorem masks_bit {ops : List Oper} {i m j : Nat} {o : Oper} (ho : ops[i]? = some o) (hm : (masks ops [])[i]? = some m) (hb : bit m j = true) :
    ∃ e ∈ o.after.toList, Region.binds .any e = true ∧ (j = e.on ∨ ∃ m', (masks ops [])[e.on]? = some m' ∧ bit m' j = true) := by
  obtain ⟨pre, ⟨r, h1⟩, h2, h3⟩ := masks_at ops [] i o ho
  simp only [List.length_nil, Nat.zero_add] at h3
  rw [hm] at h3
  cases h3
  obtain ⟨e, k1, k2, k3⟩ := maskOf_bit _ _ _ hb
  refine ⟨e, k1, k2, k3.imp id ?_⟩
  rintro ⟨m', k4, k5⟩
  refine ⟨m', ?_, k5⟩
  rw [h1, List.getElem?_append_left (List.getElem?_eq_some_iff.1 k4).1]
  exact k4
/-! ### Slots -/
theorem slotsOkAt_spec {ops : List Oper} {o : Oper} {ns : List Tmp} {m : Nat} : ∀ {l : List Oper} {k : Nat}, slotsOkAt ops o ns m l k = true → ∀ (i : Nat) (p : Oper), l[i]? = some p →
    bit m (k + i) = true ∨ ((∀ d, p.dst = some d → d ∉ ns) ∧ (∀ d, o.dst = some d → d ∉ names ops p))
  | [], k, _, i, p, hp => by simp at hp
  | q :: l, k, h, i, p, hp => by
    simp only [slotsOkAt, Bool.and_eq_true, Bool.or_eq_true] at h
    cases i with
    | zero =>
      simp only [List.getElem?_cons_zero, Option.some.injEq] at hp
      subst hp
      refine h.1.imp id fun ⟨h1, h2⟩ => ⟨fun d hd hn => ?_, fun d hd hn => ?_⟩
      · rw [hd] at h1; simp only at h1; rw [(memNat_iff d ns).2 hn] at h1; cases h1
      · rw [hd] at h2; simp only at h2; rw [(memNat_iff d _).2 hn] at h2; cases h2
    | succ i =>
      simp only [List.getElem?_cons_succ] at hp
      have := slotsOkAt_spec h.2 i p hp
      rw [show k + (i + 1) = k + 1 + i by omega]
      exact this
theorem slotsOk_spec {ops : List Oper} : ∀ {l : List Oper} {ms : List Nat} {k : Nat}, slotsOk ops l ms k = true → ∀ (j : Nat) (o : Oper) (m : Nat), l[j]? = some o → ms[j]? = some m →
    ∀ (i : Nat) (p : Oper), i < k + j → ops[i]? = some p → bit m i = true ∨ ((∀ d, p.dst = some d → d ∉ names ops o) ∧ (∀ d, o.dst = some d → d ∉ names ops p))
  | [], ms, k, _, j, o, m, ho, _ => by simp at ho
  | o' :: l, [], k, _, j, o, m, _, hm => by simp at hm
  | o' :: l, m' :: ms, k, h, j, o, m, ho, hm => by
    intro i p hi hp
    simp only [slotsOk, Bool.and_eq_true] at h
    cases j with
    | zero =>
      simp only [List.getElem?_cons_zero, Option.some.injEq] at ho hm
      subst ho hm
      have := slotsOkAt_spec h.1 i p (by rw [List.getElem?_take_of_lt (by omega)]; exact hp)
      rwa [Nat.zero_add] at this
    | succ j =>
      simp only [List.getElem?_cons_succ] at ho hm
      exact slotsOk_spec h.2 j o m ho hm i p (by omega) hp
theorem edgesOk_spec : ∀ {l : List Oper} {k : Nat}, edgesOk l k = true → ∀ (i : Nat) (o : Oper), l[i]? = some o → ∀ e ∈ o.after.toList, Region.binds .any e = true → e.on < k + i
  | [], k, _, i, o, ho => by simp at ho
  | o' :: l, k, h, i, o, ho => by
    intro e he hb
    simp only [edgesOk, Bool.and_eq_true] at h
    cases i with
    | zero =>
      simp only [List.getElem?_cons_zero, Option.some.injEq] at ho
      subst ho
      have := List.all_eq_true.1 h.1 e he
      simp only [hb, Bool.not_true, Bool.false_or, nblt, decide_eq_true_eq] at this
      omega
    | succ i =>
      simp only [List.getElem?_cons_succ] at ho
      have := edgesOk_spec h.2 i o ho e he hb
      omega
/-! ### The order -/
theorem mem_items : ∀ {l : List Oper} {ms : List Nat} {k : Nat} {t : It}, t ∈ items l ms k → ∃ j, t.i = k + j ∧ l[j]? = some t.o ∧ ms[j]? = some t.m
  | [], ms, k, t, h => by simp [items] at h
  | o :: l, [], k, t, h => by simp [items] at h
  | o :: l, m :: ms, k, t, h => by
    simp only [items, List.mem_cons] at h
    rcases h with rfl | h
    · exact ⟨0, rfl, rfl, rfl⟩
    · obtain ⟨j, h1, h2, h3⟩ := mem_items h
      exact ⟨j + 1, by omega, by simpa using h2, by simpa using h3⟩
theorem mem_among {m done : Nat} : ∀ {l : List It} {t : It}, t ∈ among m done l → t ∈ l
  | [], t, h => h
  | u :: l, t, h => by
    unfold among at h
    cases hb : (bit m u.i && !(bit done u.i)) with
    | true =>
      rw [hb, ifB_true] at h
      rcases List.mem_cons.1 h with rfl | h
      · simp
      · simp [mem_among h]
    | false => rw [hb, ifB_false] at h; simp [mem_among h]
theorem mem_others {done : Nat} : ∀ {l : List It} {t : It}, t ∈ others done l → t ∈ l
  | [], t, h => h
  | u :: l, t, h => by
    unfold others at h
    cases hb : bit done u.i with
    | true => rw [hb, ifB_true] at h; simp [mem_others h]
    | false =>
      rw [hb, ifB_false] at h
      rcases List.mem_cons.1 h with rfl | h
      · simp
      · simp [mem_others h]
theorem mem_orderA {all : List It} : ∀ {l : List It} {done : Nat} {t : It}, (∀ u ∈ l, u ∈ all) → t ∈ orderA all l done → t ∈ all
  | [], done, t, _, h => mem_others h
  | u :: l, done, t, hs, h => by
    unfold orderA at h
    cases hb : (loud u.o.op && !(bit done u.i)) with
    | true =>
      rw [hb, ifB_true, appL_eq, List.mem_append, List.mem_cons] at h
      rcases h with h | rfl | h
      · exact mem_among h
      · exact hs _ (by simp)
      · exact mem_orderA (fun v hv => hs v (by simp [hv])) h
    | false =>
      rw [hb, ifB_false] at h
      exact mem_orderA (fun v hv => hs v (by simp [hv])) h
theorem mem_orderOf {ops : List Oper} {t : It} (h : t ∈ orderOf ops) : ops[t.i]? = some t.o ∧ (masks ops [])[t.i]? = some t.m := by
  obtain ⟨j, h1, h2, h3⟩ := mem_items (mem_orderA (fun _ h => h) h)
  rw [Nat.zero_add] at h1
  rw [h1]
  exact ⟨h2, h3⟩
theorem onceA_spec : ∀ {l : List It} {seen : List Nat}, onceA l seen = true → (∀ t ∈ l, t.i ∉ seen) ∧ ∀ (p q : Nat) (x y : It), l[p]? = some x → l[q]? = some y → x.i = y.i → p = q
  | [], seen, _ => ⟨by simp, by simp⟩
  | t :: l, seen, h => by
    simp only [onceA, Bool.and_eq_true, Bool.not_eq_true', ← Bool.not_eq_true, memNat_iff] at h
    obtain ⟨h1, h2⟩ := onceA_spec h.2
    refine ⟨fun u hu => ?_, fun p q x y hx hy he => ?_⟩
    · rcases List.mem_cons.1 hu with rfl | hu
      · exact h.1
      · exact fun hm => h1 u hu (by simp [hm])
    · cases p with
      | zero =>
        cases q with
        | zero => rfl
        | succ q =>
          simp only [List.getElem?_cons_zero, Option.some.injEq, List.getElem?_cons_succ] at hx hy
          subst hx
          exact absurd (by rw [← he]; simp) (h1 y (List.mem_of_getElem? hy))
      | succ p =>
        cases q with
        | zero =>
          simp only [List.getElem?_cons_zero, Option.some.injEq, List.getElem?_cons_succ] at hx hy
          subst hy
          exact absurd (by rw [he]; simp) (h1 x (List.mem_of_getElem? hx))
        | succ q =>
          simp only [List.getElem?_cons_succ] at hx hy
          rw [h2 p q x y hx hy he]
theorem fullA_spec {l : List It} : ∀ {k : Nat}, fullA l k = true → ∀ i, i < k → ∃ t ∈ l, t.i = i
  | 0, _, i, hi => by omega
  | k + 1, h, i, hi => by
    simp only [fullA, Bool.and_eq_true, memNat_iff] at h
    rcases Nat.lt_or_ge i k with hk | hk
    · exact fullA_spec h.2 i hk
    · obtain ⟨t, h1, h2⟩ := List.mem_map.1 h.1
      exact ⟨t, h1, by omega⟩
theorem fitA_spec {ops : List Oper} {ms : List Nat} : ∀ {l : List It} {done : Nat}, fitA ops ms l done = true → ∀ (p : Nat) (t : It), l[p]? = some t → ∀ j, bit t.m j = true →
    bit done j = true ∨ ∃ q u, q < p ∧ l[q]? = some u ∧ u.i = j
  | [], done, _, p, t, h => by simp at h
  | u :: l, done, h, p, t, ht => by
    intro j hj
    simp only [fitA, Bool.and_eq_true, nbeq, decide_eq_true_eq] at h
    cases p with
    | zero =>
      simp only [List.getElem?_cons_zero, Option.some.injEq] at ht
      subst ht
      left
      rw [← h.1.2, bit_or, hj, Bool.true_or]
    | succ p =>
      simp only [List.getElem?_cons_succ] at ht
      rcases fitA_spec h.2 p t ht j hj with k | ⟨q, v, k1, k2, k3⟩
      · rw [bit_or, bit_two, Bool.or_eq_true, decide_eq_true_eq] at k
        rcases k with k | k
        · exact .inl k
        · exact .inr ⟨0, u, by omega, rfl, k⟩
      · exact .inr ⟨q + 1, v, by omega, by simpa using k2, k3⟩
/-! ### The run, position by position -/
def dAt (xs : List Stp) (dE : Dr) (p : Nat) : Dr := match xs[p]? with | some x => x.d | none => dE
theorem Tr.items {n : Nat} {all : List Oper} : ∀ {l : List It} {d : Dr} {xs : List Stp} {d' : Dr}, Tr n all l d xs d' → xs.map (·.t) = l
  | _, _, _, _, .nil => rfl
  | _, _, _, _, .cons _ h => by simp [h.items]
theorem Tr.first {n : Nat} {all : List Oper} {l : List It} {d : Dr} {xs : List Stp} {d' : Dr} (h : Tr n all l d xs d') : dAt xs d' 0 = d := by
  cases h <;> rfl
theorem Tr.step {n : Nat} {all : List Oper} : ∀ {l : List It} {d : Dr} {xs : List Stp} {d' : Dr}, Tr n all l d xs d' → ∀ (p : Nat) (x : Stp), xs[p]? = some x →
    x.d = dAt xs d' p ∧ x.d' = dAt xs d' (p + 1) ∧ StpOk n all x
  | _, _, _, _, .nil, p, x, h => by simp at h
  | _, _, _, _, .cons (x := y) (xs := ys) hy ht, p, x, h => by
    cases p with
    | zero =>
      simp only [List.getElem?_cons_zero, Option.some.injEq] at h
      subst h
      refine ⟨rfl, ?_, hy⟩
      rw [← ht.first]
      simp [dAt]
    | succ p =>
      simp only [List.getElem?_cons_succ] at h
      obtain ⟨h1, h2, h3⟩ := ht.step p x h
      refine ⟨?_, ?_, h3⟩
      · rw [h1]; simp [dAt]
      · rw [h2]; simp [dAt]
theorem dAt_end (xs : List Stp) (dE : Dr) : dAt xs dE xs.length = dE := by simp [dAt]
structure Tra (n : Nat) (ops : Array Oper) (xs : List Stp) (d0 dE : Dr) : Prop where
  step : ∀ (p : Nat) (x : Stp), xs[p]? = some x → x.d = dAt xs dE p ∧ x.d' = dAt xs dE (p + 1) ∧ StpOk n ops.toList x
  first : dAt xs dE 0 = d0
  item : ∀ (p : Nat) (x : Stp), xs[p]? = some x → ops.toList[x.t.i]? = some x.t.o ∧ (masks ops.toList [])[x.t.i]? = some x.t.m
  fit : ∀ (p : Nat) (x : Stp) (j : Nat), xs[p]? = some x → bit x.t.m j = true → ∃ (q : Nat) (y : Stp), q < p ∧ xs[q]? = some y ∧ y.t.i = j
  once : ∀ (p q : Nat) (x y : Stp), xs[p]? = some x → xs[q]? = some y → x.t.i = y.t.i → p = q
  full : ∀ i, i < ops.size → ∃ (p : Nat) (x : Stp), xs[p]? = some x ∧ x.t.i = i
  edges : ∀ (i : Nat) (o : Oper), ops.toList[i]? = some o → ∀ e ∈ o.after.toList, Region.binds .any e = true → e.on < i
  slots : ∀ (j : Nat) (o : Oper) (m : Nat), ops.toList[j]? = some o → (masks ops.toList [])[j]? = some m →
    ∀ (i : Nat) (p : Oper), i < j → ops.toList[i]? = some p → bit m i = true ∨ ((∀ d, p.dst = some d → d ∉ names ops.toList o) ∧ (∀ d, o.dst = some d → d ∉ names ops.toList p))
theorem Tra.of {n : Nat} {ops : Array Oper} {xs : List Stp} {d0 dE : Dr} (h : regionOk ops.toList = true) (ht : Tr n ops.toList (orderOf ops.toList) d0 xs dE) : Tra n ops xs d0 dE := by
  simp only [regionOk, Bool.and_eq_true] at h
  obtain ⟨h1, h2, h3, h4, h5⟩ := h
  have hit := ht.items
  have hat : ∀ (p : Nat) (x : Stp), xs[p]? = some x → (orderOf ops.toList)[p]? = some x.t := by
    intro p x hx
    rw [← hit, List.getElem?_map, hx]; rfl
  have hta : ∀ (p : Nat) (t : It), (orderOf ops.toList)[p]? = some t → ∃ x, xs[p]? = some x ∧ x.t = t := by
    intro p t hx
    rw [← hit, List.getElem?_map, Option.map_eq_some_iff] at hx
    exact hx
  refine ⟨ht.step, ht.first, fun p x hx => mem_orderOf (List.mem_of_getElem? (hat p x hx)), fun p x j hx hj => ?_, fun p q x y hx hy he => (onceA_spec h3).2 p q _ _ (hat p x hx) (hat q y hy) he, fun i hi => ?_, fun i o ho e he hb => ?_, fun j o m ho hm i p hi hp => slotsOk_spec h2 j o m ho hm i p (by omega) hp⟩
  · rcases fitA_spec h5 p x.t (hat p x hx) j hj with k | ⟨q, u, k1, k2, k3⟩
    · simp [bit_zero] at k
    · obtain ⟨y, hy, rfl⟩ := hta q u k2
      exact ⟨q, y, k1, hy, k3⟩
  · rw [lenL_eq, Array.length_toList] at h4
    obtain ⟨t, k1, k2⟩ := fullA_spec h4 i hi
    obtain ⟨p, hp⟩ := List.getElem?_of_mem k1
    obtain ⟨x, hx, rfl⟩ := hta p t hp
    exact ⟨p, x, hx, k2⟩
  · have := edgesOk_spec h1 i o ho e he hb
    omega
end Go.Ev
