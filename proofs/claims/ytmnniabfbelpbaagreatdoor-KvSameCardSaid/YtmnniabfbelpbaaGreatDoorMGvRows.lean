/-
  Texts of this claim.
-/
import Derived.Test.YtmnniabfbelpbaaGreatDoorMGvAppend
import Derived.Deep.Slices
import Derived.Lib.SmallJoins
set_option linter.unusedVariables false
set_option linter.unusedSimpArgs false
namespace Go.Ev
open Go.Joins Go.ChangeShapes Go.WideShapes Go.RowKit Go.Deep
theorem flat_len {α : Type} {f : α → List Value} {z : Nat} (hf : ∀ a, (f a).length = z) : ∀ l : List α, (l.flatMap f).length = l.length * z
 | [] => by simp
 | a :: l => by rw [List.flatMap_cons, List.length_append, hf, flat_len hf l, List.length_cons, Nat.succ_mul]; omega
theorem flat_at {α : Type} {f : α → List Value} {z : Nat} (hf : ∀ a, (f a).length = z) : ∀ (l : List α) (k r : Nat) (hk : k < l.length), r < z → (l.flatMap f)[k * z + r]? = (f l[k])[r]?
 | a :: l, 0, r, _, hr => by rw [List.flatMap_cons, Nat.zero_mul, Nat.zero_add, List.getElem?_append_left (by rw [hf]; exact hr)]; rfl
 | a :: l, k + 1, r, h, hr => by
  rw [List.flatMap_cons, List.getElem?_append_right (by rw [hf, Nat.succ_mul]; omega), hf, show (k + 1) * z + r - z = k * z + r by rw [Nat.succ_mul]; omega]
  exact flat_at hf l k r (by simpa using h) hr
section
variable {H : Type} {enc : TypeId × Value → H} {P : Program} {w : World} {base : Nat} {spare : Nat → Bool} {held : Bool}
theorem slice_rows {α : Type} {f : α → List Value} {Q : α → Prop} {t e : TypeId} {z fuel : Nat} {v : Value} {y : DataW H × List MemPlace} (ht : P.underlying t = some (.slice e)) (hC : P.cellsOf e = z) (hpos : 0 < z) (hf : ∀ a, (f a).length = z)
  (he : ∀ n' cs x, cs.length = z → DataW.trod enc P w base spare held n' e cs = some x → ∃ a, cs = f a ∧ Q a) (h : DataW.trod enc P w base spare held fuel t [v] = some y) : ∃ l : List α, Sl w z v l.length (l.flatMap f) ∧ l.length ≤ maxLen ∧ ∀ a ∈ l, Q a := by
 rcases open_slice ht h with ⟨e0, _⟩ | ⟨a, len, cap, m, n, D, Pl, e0, hb, hl, hm, hmm, hx, hi⟩
 ·simp only [List.cons.injEq, and_true] at e0
  subst e0
  exact ⟨[], Sl.nil .., Nat.zero_le _, fun o ho => by cases ho⟩
 ·simp only [List.cons.injEq, and_true] at e0
  subst e0
  have hlm : len ≤ m := by rw [hmm]; split <;> omega
  rcases Nat.eq_zero_or_pos len with hz0 | hz0
  ·subst hz0
   exact ⟨[], Sl.nil .., Nat.zero_le _, fun o ho => by cases ho⟩
  rw [hC] at hi
  have hsp : a.spot = none ∧ a.block < w.heap.size := by
   obtain ⟨cs', q1, q2⟩ := hi 0 (by omega)
   obtain ⟨_, hlen, hat⟩ := World.cells?_some q1
   have q3 := hat 0 (by omega)
   rw [List.getElem?_eq_getElem (by omega)] at q3
   simp [Addr.add] at q3
   unfold World.cell? at q3
   split at q3
   ·rename_i c e' fz hq
    split at q3
    ·cases q3
    ·rename_i hs'
     exact ⟨by simpa using hs', (Array.getElem?_eq_some_iff.1 hq).1⟩
   ·cases q3
  obtain ⟨bl, of, sp⟩ := a
  obtain ⟨hsp, hbl⟩ := hsp
  simp only at hsp
  subst hsp
  have hop : ∀ j, j < len → ∃ o : α, Q o ∧ ∀ r u, (f o)[r]? = some u → w.cell? ⟨bl, of + (j * z + r), none⟩ = some u := by
   intro j hj
   obtain ⟨cs', q1, q2⟩ := hi j (by omega)
   obtain ⟨_, hlen, hat⟩ := World.cells?_some q1
   obtain ⟨o, rfl, hq⟩ := he _ _ _ hlen q2
   refine ⟨o, hq, fun r u hu => ?_⟩
   have hr : r < z := by rw [← hlen]; exact (List.getElem?_eq_some_iff.1 hu).1
   have q7 := hat r hr
   rw [hu, addr_add, addr_add, Nat.add_assoc] at q7
   exact q7
  obtain ⟨l, hlen, hl'⟩ : ∃ l : List α, l.length = len ∧ ∀ j (hj : j < l.length), Q l[j] ∧ ∀ r u, (f l[j])[r]? = some u → w.cell? ⟨bl, of + (j * z + r), none⟩ = some u := by
   refine ⟨List.ofFn fun j : Fin len => (hop j.1 j.2).choose, by simp, fun j hj => ?_⟩
   have hj' : j < len := by simpa using hj
   have := (hop j hj').choose_spec
   simpa using this
  subst hlen
  refine ⟨l, ⟨_, _, rfl, hl, flat_len hf l, fun _ => ⟨bl, of, rfl, hbl, fun j u hu => ?_⟩⟩, Nat.le_trans hl hm, fun o ho => ?_⟩
  ·have hj : j < l.length * z := by rw [← flat_len hf l]; exact (List.getElem?_eq_some_iff.1 hu).1
   have hd : j / z < l.length := Nat.div_lt_of_lt_mul (by rw [Nat.mul_comm]; exact hj)
   have hr : j % z < z := Nat.mod_lt _ hpos
   have hjj : j / z * z + j % z = j := by rw [Nat.mul_comm]; exact Nat.div_add_mod j z
   rw [← hjj, flat_at hf l _ _ hd hr] at hu
   have := (hl' _ hd).2 _ _ hu
   rwa [hjj] at this
  ·obtain ⟨j, hj, rfl⟩ := List.getElem_of_mem ho
   exact (hl' j hj).1
end
end Go.Ev
