/-
  The best part in two leaves no part too great. Branches made anew above what is new below: it is a tree again, of the pairs with one more. A pair put into a tree: what the leaf becomes, and the branches above, and the root: a tree of the pairs with that one. How near to a split a tree's levels are, and how many nodes they have: what a split takes away. Branches made anew above what is new below, where children may fall away: it is a tree again, of the pairs as they are turned at one key.
-/
import Derived.Test.YtoemhefcmibjpaaGreatDoorMGvFind
import Derived.Test.YtoemhefcmibjpaaGreatDoorMGvGetC
import Derived.Test.YtoemhefcmibjpaaGreatDoorMGvGet
set_option linter.unusedVariables false
set_option linter.unusedSimpArgs false
namespace Go.Ev
open Go.Lib
theorem half_at (f : Nat → Nat) (n S g : Nat) (h0 : f 0 = 0) (hn : f n = S) (hs : ∀ j, j < n → f (j + 1) ≤ f j + g) (hm : ∀ j, j ≤ n → f j ≤ S) (h2 : 2 ≤ n) :
  ∃ j, 1 ≤ j ∧ j < n ∧ 2 * max (f j) (S - f j) ≤ S + g := by
 have key : ∀ k, k + 1 < n → (∃ j, 1 ≤ j ∧ j ≤ k + 1 ∧ 2 * max (f j) (S - f j) ≤ S + g) ∨ 2 * f (k + 1) + g < S := by
  intro k
  induction k with
  | zero =>
   intro hk
   have h1 := hs 0 (by omega)
   have h3 := hm 1 (by omega)
   simp only [Nat.zero_add, h0] at h1 ⊢
   by_cases hc : 2 * f 1 + g < S
   ·exact .inr hc
   ·exact .inl ⟨1, by omega, by omega, by omega⟩
  | succ k ih =>
   intro hk
   rcases ih (by omega) with ⟨j, h1, h3, h4⟩ | h
   ·exact .inl ⟨j, h1, by omega, h4⟩
   ·have h1 := hs (k + 1) (by omega)
    have h3 := hm (k + 1 + 1) (by omega)
    by_cases hc : 2 * f (k + 1 + 1) + g < S
    ·exact .inr hc
    ·exact .inl ⟨k + 1 + 1, by omega, by omega, by omega⟩
 obtain ⟨k, rfl⟩ : ∃ k, n = k + 2 := ⟨n - 2, by omega⟩
 rcases key k (by omega) with ⟨j, h1, h3, h4⟩ | h
 ·exact ⟨j, h1, by omega, h4⟩
 ·exfalso
  have h1 := hs (k + 1) (by omega)
  have h3 := hm (k + 1) (by omega)
  rw [hn] at h1
  omega
theorem split_half (f cost : Nat → Nat) (n S g : Nat) (h0 : f 0 = 0) (hn : f n = S) (hs : ∀ j, j < n → f (j + 1) ≤ f j + g) (hm : ∀ j, j ≤ n → f j ≤ S) (h2 : 2 ≤ n) (hc : ∀ j, j ≤ n → cost j = max (f j) (S - f j)) :
  1 ≤ bestAt cost n ∧ bestAt cost n < n ∧ 2 * cost (bestAt cost n) ≤ S + g := by
 obtain ⟨h1, h3, h4⟩ := bestAt_spec cost h2
 obtain ⟨j, q1, q2, q3⟩ := half_at f n S g h0 hn hs hm h2
 refine ⟨h1, h3, ?_⟩
 have := h4 j q1 q2
 rw [hc j (by omega)] at this
 omega
theorem layC_drop (l : List Child) (k : Nat) : (layC (l.drop k)).length = (layC l).length - (layC (l.take k)).length := by
 have : layC l = layC (l.take k) ++ layC (l.drop k) := by rw [← layC_append, List.take_append_drop]
 have h : (layC l).length = (layC (l.take k)).length + (layC (l.drop k)).length := by rw [this, List.length_append]
 omega
theorem costC_half {l : List Child} {g : Nat} (hg : ∀ x ∈ l, x.lay.length ≤ g) (h2 : 2 ≤ l.length) :
  1 ≤ bestAt (costC l) l.length ∧ bestAt (costC l) l.length < l.length ∧ 2 * costC l (bestAt (costC l) l.length) ≤ (layC l).length + g := by
 refine split_half (fun k => (layC (l.take k)).length) (costC l) l.length _ g (by simp [layC]) (by simp) (fun j hj => ?_) (fun j _ => layC_le l j) h2 fun j _ => ?_
 ·rw [layC_take hj, List.length_append]
  have := hg l[j] (List.getElem_mem ..)
  omega
 ·unfold costC
  rw [layC_drop]
theorem layI_leF (l : List Item) (k : Nat) : (layI (l.take k)).length ≤ (layI l).length := by
 have : layI l = layI (l.take k) ++ layI (l.drop k) := by rw [← layI_append, List.take_append_drop]
 rw [this, List.length_append]
 omega
theorem layI_drop (l : List Item) (k : Nat) : (layI (l.drop k)).length = (layI l).length - (layI (l.take k)).length := by
 have : layI l = layI (l.take k) ++ layI (l.drop k) := by rw [← layI_append, List.take_append_drop]
 have h : (layI l).length = (layI (l.take k)).length + (layI (l.drop k)).length := by rw [this, List.length_append]
 omega
theorem layI_takeF {l : List Item} {k : Nat} (h : k < l.length) : layI (l.take (k + 1)) = layI (l.take k) ++ l[k].lay := by
 rw [List.take_succ_eq_append_getElem h, layI_append]
 simp [layI]
theorem costI_half {l : List Item} {g : Nat} (hg : ∀ x ∈ l, x.lay.length ≤ g) (h2 : 2 ≤ l.length) :
  1 ≤ bestAt (costI l) l.length ∧ bestAt (costI l) l.length < l.length ∧ 2 * costI l (bestAt (costI l) l.length) ≤ (layI l).length + g := by
 refine split_half (fun k => (layI (l.take k)).length) (costI l) l.length _ g (by simp [layI]) (by simp) (fun j hj => ?_) (fun j _ => layI_leF l j) h2 fun j _ => ?_
 ·rw [layI_takeF hj, List.length_append]
  have := hg l[j] (List.getElem_mem ..)
  omega
 ·unfold costI
  rw [layI_drop]
theorem Item.lay_right {x : Item} (h : x.right = true) : x.lay.length ≤ 104 := by
 obtain ⟨k1, k2⟩ := Item.right_key h
 have e1 := varB_small (n := x.key.length) (by omega)
 unfold Item.right inB at h
 simp only [Item.lay, textB, List.length_append, e1, boolB]
 by_cases ho : x.over = 0
 ·rw [if_pos ho] at h
  simp only [Bool.and_eq_true, decide_eq_true_eq] at h
  have e2 := varB_small (n := x.val.length) (by omega)
  simp only [ho, bne_self_eq_false, Bool.false_eq_true, if_false, ne_eq, not_true_eq_false, List.length_append, e2, List.length_cons, List.length_nil]
  omega
 ·rw [if_neg ho] at h
  simp only [Bool.and_eq_true, decide_eq_true_eq] at h
  have e2 := varB_len x.over ⟨by omega, by omega⟩
  have e3 := varB_len x.size ⟨by omega, by omega⟩
  have e : (x.over != 0) = true := by simpa using ho
  simp only [e, if_true, ne_eq, ho, not_false_eq_true, List.length_append, List.length_cons, List.length_nil]
  omega
theorem Child.lay_fit {x : Child} (h : x.fit = true) : x.lay.length ≤ 51 ∧ 2 ≤ x.lay.length := by
 obtain ⟨h1, h2, h3⟩ := Child.fit_iff.1 h
 have e1 := varB_small (n := x.key.length) (by omega)
 have e2 := varB_len x.page ⟨by omega, by omega⟩
 simp only [Child.lay, textB, List.length_append, e1]
 omega
theorem headKey_lay (k : Bytes) : ∀ L : List Child, (layC (headKey [] L)).length ≤ (layC (headKey k L)).length
 | [] => Nat.le_refl _
 | c :: L => by
  simp only [headKey, layC, Child.lay, textB, List.length_append, List.length_nil]
  have h1 := varB_small (n := 0) (by omega)
  have h2 := uvarint_pos (zigzag (k.length : Int))
  simp only [varB] at h1 ⊢
  simp only [Int.ofNat_zero] at h1 ⊢
  omega
theorem headKey_lay' (L : List Child) : (layC (headKey [] L)).length ≤ (layC L).length := by
 cases L with
 | nil => exact Nat.le_refl _
 | cons c L => exact headKey_lay c.key (c :: L)
theorem rightC_len {L : List Child} (h : rightC L = true) : (∀ x ∈ L, x.lay.length ≤ 51) := fun x hx => (Child.lay_fit (rightC_fit h x hx)).1
theorem rightC_app {a : List Child} {y : Child} {b : List Child} (h : rightC (a ++ y :: b) = true) (ha : a ≠ []) : rightC a = true ∧ y.fit = true ∧ riseC y.key b = true := by
 cases a with
 | nil => exact absurd rfl ha
 | cons x a =>
  rw [List.cons_append, rightC_cons] at h
  rw [rightC_cons]
  have : ∀ (k : Bytes) (a : List Child), riseC k (a ++ y :: b) = true → riseC k a = true ∧ y.fit = true ∧ riseC y.key b = true := by
   intro k a
   induction a generalizing k with
   | nil => intro h; simp only [List.nil_append, riseC, Bool.and_eq_true] at h; exact ⟨rfl, h.1.1, h.2⟩
   | cons z a ih =>
    intro h
    simp only [List.cons_append, riseC, Bool.and_eq_true] at h ⊢
    obtain ⟨q1, q2, q3⟩ := ih z.key h.2
    exact ⟨⟨h.1, q1⟩, q2, q3⟩
  obtain ⟨q1, q2, q3⟩ := this [] a h.2.2
  exact ⟨⟨h.1, h.2.1, q1⟩, q2, q3⟩
theorem riseC_nil {k : Bytes} {L : List Child} (h : riseC k L = true) : riseC [] L = true := by
 cases L with
 | nil => rfl
 | cons x L =>
  simp only [riseC, Bool.and_eq_true] at h ⊢
  refine ⟨⟨h.1.1, ?_⟩, h.2⟩
  apply lessB_pos
  rintro e
  rw [e, lessB_nil] at h
  simp at h
theorem fit_key {y : Child} (h : y.fit = true) : ({ y with key := [] } : Child).fit = true := by
 rw [Child.fit_iff] at h ⊢
 exact ⟨h.1, h.2.1, by simp⟩
end Go.Ev

namespace Go.Ev
open Go.Lib
def Laid (M : Store) (k : Bytes) (L kids : List Child) (M' : Store) (new : List Int) : Prop :=
 (∃ i, (layC L).length ≤ 240 ∧ M i = none ∧ 2 ≤ i ∧ i ≤ 100000 ∧ kids = [⟨k, i⟩] ∧ M' = updS M i (some ⟨3, 0, layC L⟩) ∧ new = [i]) ∨
 ∃ z ra y rb i1 i2, 240 < (layC L).length ∧ splitC L = (z :: ra, y :: rb) ∧ M i1 = none ∧ 2 ≤ i1 ∧ i1 ≤ 100000 ∧ updS M i1 (some ⟨3, 0, layC (headKey [] (z :: ra))⟩) i2 = none ∧ 2 ≤ i2 ∧ i2 ≤ 100000 ∧ kids = [⟨k, i1⟩, ⟨y.key, i2⟩] ∧
  M' = updS (updS M i1 (some ⟨3, 0, layC (headKey [] (z :: ra))⟩)) i2 (some ⟨3, 0, layC (headKey [] (y :: rb))⟩) ∧ new = [i1, i2]
def allC (L : List Child) (i : Nat) (c : Child) (kids : List Child) : List Child := headKey [] (L.take i ++ headKey c.key kids ++ L.drop (i + 1))
structure Grow (M M' : Store) (new : List Int) : Prop where
 same : ∀ i, i ∉ new → M' i = M i
 fresh : ∀ i ∈ new, M i = none
 nodup : new.Nodup
 there : ∀ i ∈ new, M' i ≠ none
theorem Grow.refl (M : Store) : Grow M M [] := ⟨fun _ _ => rfl, fun _ h => by simp at h, List.nodup_nil, fun _ h => by simp at h⟩
theorem Grow.trans {M M1 M2 : Store} {a b : List Int} (h : Grow M M1 a) (k : Grow M1 M2 b) : Grow M M2 (a ++ b) := by
 have hab : ∀ i ∈ a, i ∉ b := fun i ha hb => h.there i ha (k.fresh i hb)
 refine ⟨fun i hi => ?_, fun i hi => ?_, ?_, fun i hi => ?_⟩
 ·rw [List.mem_append, not_or] at hi
  rw [k.same i hi.2, h.same i hi.1]
 ·by_cases ha : i ∈ a
  ·exact h.fresh i ha
  ·rw [← h.same i ha]
   exact k.fresh i ((List.mem_append.1 hi).resolve_left ha)
 ·rw [List.nodup_append]
  exact ⟨h.nodup, k.nodup, fun x hx y hy e => hab x hx (e ▸ hy)⟩
 ·by_cases ha : i ∈ a
  ·rw [k.same i (hab i ha)]
   exact h.there i ha
  ·exact k.there i ((List.mem_append.1 hi).resolve_left ha)
theorem Grow.one {M : Store} {i : Int} {x : Pg} (h : M i = none) : Grow M (updS M i (some x)) [i] := by
 refine ⟨fun j hj => ?_, fun j hj => ?_, by simp, fun j hj => ?_⟩
 ·unfold updS; rw [if_neg (by simpa using hj)]
 ·rw [List.mem_singleton.1 hj]; exact h
 ·rw [List.mem_singleton.1 hj]; unfold updS; simp
theorem Grow.sameOn {M M' : Store} {new ids : List Int} (h : Grow M M' new) (hi : ∀ i ∈ ids, M i ≠ none) : SameOn M M' ids := fun i hm => h.same i fun hn => hi i hm (h.fresh i hn)
-- the pages of a tree are there
theorem ChainAt.there {M : Store} {id : Int} {v : Bytes} {ids : List Int} (h : ChainAt M id v ids) : ∀ i ∈ ids, M i ≠ none := by
 induction h with
 | last h1 h2 h3 => intro i hi; rw [List.mem_singleton.1 hi, h1]; simp
 | more h1 h2 h3 _ ih =>
  intro i hi
  rcases List.mem_cons.1 hi with rfl | hi
  ·rw [h1]; simp
  ·exact ih i hi
theorem ValAt.there {M : Store} {x : Item} {v : Bytes} {ids : List Int} (h : ValAt M x v ids) : ∀ i ∈ ids, M i ≠ none := by
 rcases h with ⟨_, _, rfl⟩ | ⟨_, h, _⟩
 ·intro i hi; simp at hi
 ·exact h.there
theorem LeafAt.there {M : Store} : ∀ {l : List Item} {ps : List Pair} {ids : List Int}, LeafAt M l ps ids → ∀ i ∈ ids, M i ≠ none
 | [], _, _, ⟨_, h⟩ => by subst h; intro i hi; simp at hi
 | _ :: _, _, _, ⟨v, ps', i1, i2, h1, h2, h3, h4⟩ => by
  subst h2
  intro i hi
  rcases List.mem_append.1 hi with hi | hi
  ·exact h3.there i hi
  ·exact h4.there i hi
theorem Seg.there {M : Store} {T : Int → Bytes → Option Bytes → List Pair → List Int → Prop} (hT : ∀ i l h p q, T i l h p q → ∀ x ∈ q, M x ≠ none) : ∀ {L : List Child} {hi : Option Bytes} {ps : List Pair} {ids : List Int}, Seg T L hi ps ids → ∀ i ∈ ids, M i ≠ none
 | [], _, _, _, ⟨_, h⟩ => by subst h; intro i hi; simp at hi
 | _ :: _, _, _, _, ⟨p1, p2, i1, i2, h1, h2, h3, h4⟩ => by
  subst h2
  intro i hi
  rcases List.mem_append.1 hi with hi | hi
  ·exact hT _ _ _ _ _ h3 i hi
  ·exact Seg.there hT h4 i hi
theorem TreeAt.there {M : Store} {d : Nat} : ∀ {k : Nat} {id : Int} {lo : Bytes} {hi : Option Bytes} {ps : List Pair} {ids : List Int}, TreeAt M d k id lo hi ps ids → ∀ i ∈ ids, M i ≠ none
 | 0, id, lo, hi, ps, ids, ⟨items, i2, h1, h2, h3, h4, h5, h6⟩ => by
  subst h5
  intro i hi
  rcases List.mem_cons.1 hi with rfl | hi
  ·rw [h1]; simp
  ·exact h4.there i hi
 | k + 1, id, lo, hi, ps, ids, ⟨c, L, i2, h1, h2, h3, h4, h5, h6, h7⟩ => by
  subst h7
  intro i hi
  rcases List.mem_cons.1 hi with rfl | hi
  ·rw [h1]; simp
  ·exact Seg.there (fun _ _ _ _ _ ht => TreeAt.there ht.1) h6 i hi
theorem seg_there {M : Store} {d k : Nat} {L : List Child} {hi : Option Bytes} {ps : List Pair} {ids : List Int} (h : Seg (Sub M d k) L hi ps ids) : ∀ i ∈ ids, M i ≠ none := Seg.there (fun _ _ _ _ _ ht => TreeAt.there ht.1) h
theorem seg_same {M M' : Store} {d k : Nat} {L : List Child} {hi : Option Bytes} {ps : List Pair} {ids new : List Int} (h : Seg (Sub M d k) L hi ps ids) (hg : Grow M M' new) : Seg (Sub M' d k) L hi ps ids :=
 h.mono fun i l h' p q hq ht => ⟨TreeAt.same ht.1 (hg.sameOn fun x hx => seg_there h x (hq x hx)), ht.2⟩
-- keys at the head
theorem headKey_twice (a b : Bytes) (L : List Child) : headKey a (headKey b L) = headKey a L := by cases L <;> rfl
theorem headKey_app {a b : List Child} (k : Bytes) (h : a ≠ []) : headKey k (a ++ b) = headKey k a ++ b := by
 cases a with
 | nil => exact absurd rfl h
 | cons c a => rfl
theorem headKey_len (k : Bytes) (L : List Child) : (headKey k L).length = L.length := by cases L <;> rfl
theorem headKey_ne {k : Bytes} {L : List Child} (h : L ≠ []) : headKey k L ≠ [] := by
 cases L with
 | nil => exact absurd rfl h
 | cons c L => simp [headKey]
theorem headKey_fit {L : List Child} (h : ∀ x ∈ L, x.fit = true) : ∀ x ∈ headKey [] L, x.fit = true := by
 cases L with
 | nil => exact h
 | cons c L =>
  intro x hx
  rcases List.mem_cons.1 hx with rfl | hx
  ·exact fit_key (h c (List.mem_cons_self ..))
  ·exact h x (List.mem_cons_of_mem _ hx)
theorem headKey_fit' {L : List Child} {k : Bytes} (hk : k.length ≤ 40) (h : ∀ x ∈ L, x.fit = true) : ∀ x ∈ headKey k L, x.fit = true := by
 cases L with
 | nil => exact h
 | cons c L =>
  intro x hx
  rcases List.mem_cons.1 hx with rfl | hx
  ·have := Child.fit_iff.1 (h c (List.mem_cons_self ..))
   exact Child.fit_iff.2 ⟨this.1, this.2.1, hk⟩
  ·exact h x (List.mem_cons_of_mem _ hx)
theorem Seg.ne {M : Store} {d k : Nat} {L : List Child} {hi : Option Bytes} {ps : List Pair} {ids : List Int} (h : Seg (Sub M d k) L hi ps ids) (hl : L ≠ []) : ps ≠ [] := by
 cases L with
 | nil => exact absurd rfl hl
 | cons c L =>
  obtain ⟨p1, p2, i1, i2, rfl, _, h3, _⟩ := h
  intro e
  exact h3.2 (List.append_eq_nil_iff.1 e).1
theorem Seg.riseC {M : Store} {d k : Nat} : ∀ {L : List Child} {c : Child} {hi : Option Bytes} {ps : List Pair} {ids : List Int}, Seg (Sub M d k) (c :: L) hi ps ids → (∀ x ∈ L, x.fit = true) → riseC c.key L = true
 | [], c, hi, ps, ids, h, hf => rfl
 | c' :: L, c, hi, ps, ids, h, hf => by
  obtain ⟨p1, p2, i1, i2, rfl, rfl, ⟨g3, g4⟩, g5⟩ := h
  obtain ⟨x, hx⟩ := List.exists_mem_of_ne_nil _ g4
  have hxc := TreeAt.inR g3 x hx
  have hcc : lessB c.key c'.key = true := lessB_of_le_lt hxc.1 (hxc.2 c'.key rfl)
  simp only [Go.Ev.riseC, Bool.and_eq_true]
  exact ⟨⟨hf c' (List.mem_cons_self ..), hcc⟩, Seg.riseC g5 fun x hx => hf x (List.mem_cons_of_mem _ hx)⟩
theorem Seg.right {M : Store} {d k : Nat} {F : List Child} {hi : Option Bytes} {ps : List Pair} {ids : List Int} (h : Seg (Sub M d k) F hi ps ids) (hne : F ≠ []) (hf : ∀ x ∈ headKey [] F, x.fit = true) : rightC (headKey [] F) = true := by
 cases F with
 | nil => exact absurd rfl hne
 | cons c L =>
  simp only [headKey] at hf ⊢
  rw [rightC_cons]
  exact ⟨hf _ (List.mem_cons_self ..), rfl, riseC_nil (h.riseC fun x hx => hf x (List.mem_cons_of_mem _ hx))⟩
theorem splitC_app {L a b : List Child} (h : splitC L = (a, b)) : a ++ b = L := by
 unfold splitC at h
 split at h
 ·cases h; simp
 ·cases h; exact List.take_append_drop _ _
structure FitP (L : List Child) : Prop where
 right : rightC L = true
 len : (layC L).length ≤ 400
 fit : (layC L).length ≤ 240 ∨ 240 < (layC L).length ∧ ∃ z ra y rb, splitC L = (z :: ra, y :: rb) ∧ rightC (headKey [] (z :: ra)) = true ∧ rightC (headKey [] (y :: rb)) = true ∧
  (layC (headKey [] (z :: ra))).length ≤ 240 ∧ (layC (headKey [] (y :: rb))).length ≤ 240 ∧ 2 ≤ (z :: ra).length ∧ 2 ≤ (y :: rb).length
theorem layC_le51 {L : List Child} (h : ∀ x ∈ L, x.lay.length ≤ 51) : (layC L).length ≤ 51 * L.length := by
 induction L with
 | nil => simp [layC]
 | cons x L ih =>
  have h1 := h x (List.mem_cons_self ..)
  have h2 := ih fun y hy => h y (List.mem_cons_of_mem _ hy)
  simp only [layC, List.length_append, List.length_cons]
  omega
theorem FitP.of {L : List Child} (hr : rightC L = true) (hs : (layC L).length ≤ 400) : FitP L := by
 refine ⟨hr, hs, ?_⟩
 by_cases h240 : (layC L).length ≤ 240
 ·exact .inl h240
 ·have hg := rightC_len hr
  have h51 := layC_le51 hg
  have h2 : 2 ≤ L.length := by omega
  obtain ⟨b1, b2, b3⟩ := costC_half hg h2
  have hsp : splitC L = (L.take (bestAt (costC L) L.length), L.drop (bestAt (costC L) L.length)) := by
   unfold splitC
   rw [if_neg (by omega)]
  generalize hb : bestAt (costC L) L.length = b at *
  have hlen : (layC L).length = (layC (L.take b)).length + (layC (L.drop b)).length := by
   rw [← List.length_append, ← layC_append, List.take_append_drop]
  unfold costC at b3
  have happ := List.take_append_drop b L
  have l1 : (L.take b).length = b := by rw [List.length_take]; omega
  have l2 : (L.drop b).length = L.length - b := List.length_drop
  have q1 := layC_le51 (L := L.take b) fun x hx => hg x (List.mem_of_mem_take hx)
  have q2 := layC_le51 (L := L.drop b) fun x hx => hg x (List.mem_of_mem_drop hx)
  cases ht : L.take b with
  | nil => rw [ht] at l1; simp at l1; omega
  | cons z ra =>
   cases hd : L.drop b with
   | nil => rw [hd] at l2; simp at l2; omega
   | cons y rb =>
    rw [ht] at hlen b3 l1 q1
    rw [hd] at hlen b3 l2 q2
    rw [ht, hd] at happ hsp
    have hr' := hr
    rw [← happ] at hr'
    obtain ⟨r1, r2, r3⟩ := rightC_app hr' (by simp)
    have hz : headKey [] (z :: ra) = z :: ra := by
     have := (rightC_cons.1 r1).2.1
     simp only [headKey]
     rw [← this]
    refine .inr ⟨by omega, z, ra, y, rb, hsp, by rw [hz]; exact r1, ?_, by rw [hz]; omega, ?_, by omega, by omega⟩
    ·simp only [headKey]
     rw [rightC_cons]
     exact ⟨fit_key r2, rfl, riseC_nil r3⟩
    ·have := headKey_lay' (y :: rb)
     omega
structure KidsFit (kids : List Child) : Prop where
 ne : kids ≠ []
 two : kids.length ≤ 2
 fit : ∀ x ∈ kids, x.fit = true
theorem Laid.tree {M M2 : Store} {d k : Nat} {hi : Option Bytes} {ps : List Pair} {ids new2 : List Int} {lo : Bytes} {c : Child} {L kids2 : List Child} (hd : d ≤ 2) (hlo : c.key = lo) (hs : Seg (Sub M d k) (c :: L) hi ps ids) (hdl : d ≤ L.length + 1) (hf : FitP (headKey [] (c :: L)))
  (h : Laid M [] (headKey [] (c :: L)) kids2 M2 new2) : Grow M M2 new2 ∧ KidsFit kids2 ∧ ∃ idk, Seg (Sub M2 d (k + 1)) (headKey lo kids2) hi ps idk ∧ idk.Perm (new2 ++ ids) := by
 have hne := hs.ne (by simp)
 rcases h with ⟨i, h1, h2, h3, h4, rfl, rfl, rfl⟩ | ⟨z, ra, y, rb, i1, i2, h1, h2, h3, h4, h5, h6, h7, h8, rfl, rfl, rfl⟩
 ·have hg : Grow M (updS M i (some ⟨3, 0, layC (headKey [] (c :: L))⟩)) [i] := Grow.one h2
  refine ⟨hg, ⟨by simp, by simp, fun x hx => ?_⟩, i :: ids, ⟨ps, [], i :: ids, [], by simp, by simp, ⟨⟨c, L, ids, ?_, hf.right, h1, hdl, hlo, seg_same hs hg, rfl⟩, hne⟩, rfl, rfl⟩, by simp⟩
  ·rw [List.mem_singleton.1 hx]
   exact Child.fit_iff.2 ⟨h3, (by dsimp only; omega), by simp⟩
  ·unfold updS; simp
 ·have happ := splitC_app h2
  obtain ⟨_, z', ra', y', rb', e0, r1, r2, r3, r4, r5, r6⟩ := hf.fit.resolve_left (by omega)
  rw [h2] at e0
  simp only [Prod.mk.injEq, List.cons.injEq] at e0
  obtain ⟨⟨rfl, rfl⟩, rfl, rfl⟩ := e0
  have hF : c :: L = headKey lo (z :: ra) ++ (y :: rb) := by
   have : headKey lo (headKey [] (c :: L)) = c :: L := by rw [headKey_twice, ← hlo]; rfl
   rw [← this, ← happ, headKey_app _ (by simp)]
  rw [hF] at hs
  obtain ⟨p1, p2, j1, j2, rfl, rfl, s1, s2⟩ := Seg.append.1 hs
  have n1 := s1.ne (headKey_ne (by simp))
  have n2 := s2.ne (by simp)
  have g1 : Grow M (updS M i1 (some ⟨3, 0, layC (headKey [] (z :: ra))⟩)) [i1] := Grow.one h3
  have g2 := Grow.one (x := ⟨3, 0, layC (headKey [] (y :: rb))⟩) h6
  have hg := g1.trans g2
  have hn12 : i1 ≠ i2 := by
   rintro rfl
   simp [updS] at h6
  have t1 := seg_same s1 hg
  have t2 := seg_same s2 hg
  have hyk : y.key.length ≤ 40 := by
   have : y ∈ headKey [] (c :: L) := by rw [← happ]; simp
   exact (Child.fit_iff.1 (rightC_fit hf.right y this)).2.2
  refine ⟨hg, ⟨by simp, by simp, fun x hx => ?_⟩, i1 :: j1 ++ (i2 :: j2), ⟨p1, p2, i1 :: j1, i2 :: j2, rfl, rfl, ⟨⟨{ z with key := lo }, ra, j1, ?_, r1, r3, by simp at r5 ⊢; omega, rfl, t1, rfl⟩, n1⟩, p2, [], i2 :: j2, [], by simp, by simp, ⟨⟨y, rb, j2, ?_, r2, r4, by simp at r6 ⊢; omega, rfl, t2, rfl⟩, n2⟩, rfl, rfl⟩, ?_⟩
  ·rcases List.mem_cons.1 hx with rfl | hx
   ·exact Child.fit_iff.2 ⟨h4, (by dsimp only; omega), by simp⟩
   ·rw [List.mem_singleton.1 hx]
    exact Child.fit_iff.2 ⟨h7, (by dsimp only; omega), hyk⟩
  ·show updS (updS M i1 _) i2 _ i1 = _
   unfold updS
   rw [if_neg hn12, if_pos rfl]
   rfl
  ·show updS (updS M i1 _) i2 _ i2 = _
   unfold updS
   rw [if_pos rfl]
  ·rw [List.perm_iff_count]
   intro a
   simp only [List.count_append, List.count_cons, List.count_nil, List.cons_append, List.nil_append]
   omega
inductive Trail (M : Store) (key : Bytes) : Int → List (Int × Nat × List Child) → Int → List Item → Prop
 | leaf {id : Int} {items : List Item} : M id = some ⟨2, 0, layI items⟩ → riseI items = true → (layI items).length ≤ 240 → Trail M key id [] id items
 | branch {id lid : Int} {L : List Child} {items : List Item} {x : Child} {P : List (Int × Nat × List Child)} : M id = some ⟨3, 0, layC L⟩ → rightC L = true → (layC L).length ≤ 240 → L[findC key L]? = some x →
   Trail M key x.page P lid items → Trail M key id ((id, findC key L, L) :: P) lid items
theorem layC_inj {a b : List Child} (ha : rightC a = true) (hb : rightC b = true) (la : (layC a).length ≤ 240) (h : layC a = layC b) : a = b := by
 have h1 := getC_put ha la
 have h2 := getC_put hb (h ▸ la)
 rw [h, h2] at h1
 simpa using h1.symm
theorem layI_inj {a b : List Item} (ha : riseI a = true) (hb : riseI b = true) (la : (layI a).length ≤ 240) (h : layI a = layI b) : a = b := by
 have h1 := getI_put ha la
 have h2 := getI_put hb (h ▸ la)
 rw [h, h2] at h1
 simpa using h1.symm
end Go.Ev

namespace Go.Ev
open Go.Lib
def LaidI (M : Store) (l : List Item) (kids : List Child) (M' : Store) (new : List Int) : Prop :=
 (∃ i, (layI l).length ≤ 240 ∧ M i = none ∧ 2 ≤ i ∧ i ≤ 100000 ∧ kids = [⟨[], i⟩] ∧ M' = updS M i (some ⟨2, 0, layI l⟩) ∧ new = [i]) ∨
 ∃ a y r i1 i2, 240 < (layI l).length ∧ splitI l = (a, y :: r) ∧ M i1 = none ∧ 2 ≤ i1 ∧ i1 ≤ 100000 ∧ updS M i1 (some ⟨2, 0, layI a⟩) i2 = none ∧ 2 ≤ i2 ∧ i2 ≤ 100000 ∧ kids = [⟨[], i1⟩, ⟨y.key, i2⟩] ∧
  M' = updS (updS M i1 (some ⟨2, 0, layI a⟩)) i2 (some ⟨2, 0, layI (y :: r)⟩) ∧ new = [i1, i2]
structure FitI (l : List Item) : Prop where
 rise : riseI l = true
 len : (layI l).length ≤ 344
 fit : (layI l).length ≤ 240 ∨ 240 < (layI l).length ∧ ∃ z ra y rb, splitI l = (z :: ra, y :: rb) ∧ riseI (z :: ra) = true ∧ riseI (y :: rb) = true ∧ (layI (z :: ra)).length ≤ 240 ∧ (layI (y :: rb)).length ≤ 240
theorem splitI_app {l a b : List Item} (h : splitI l = (a, b)) : a ++ b = l := by
 unfold splitI at h
 split at h
 ·cases h; simp
 ·cases h; exact List.take_append_drop _ _
theorem layI_le104 {l : List Item} (h : ∀ x ∈ l, x.lay.length ≤ 104) : (layI l).length ≤ 104 * l.length := by
 induction l with
 | nil => simp [layI]
 | cons x l ih =>
  have h1 := h x (List.mem_cons_self ..)
  have h2 := ih fun y hy => h y (List.mem_cons_of_mem _ hy)
  simp only [layI, List.length_append, List.length_cons]
  omega
theorem FitI.of {l : List Item} (hr : riseI l = true) (hs : (layI l).length ≤ 344) : FitI l := by
 refine ⟨hr, hs, ?_⟩
 by_cases h240 : (layI l).length ≤ 240
 ·exact .inl h240
 ·have hg : ∀ x ∈ l, x.lay.length ≤ 104 := fun x hx => Item.lay_right (riseI_right hr x hx)
  have h51 := layI_le104 hg
  have h2 : 2 ≤ l.length := by omega
  obtain ⟨b1, b2, b3⟩ := costI_half hg h2
  have hsp : splitI l = (l.take (bestAt (costI l) l.length), l.drop (bestAt (costI l) l.length)) := by
   unfold splitI
   rw [if_neg (by omega)]
  generalize hb : bestAt (costI l) l.length = b at *
  unfold costI at b3
  have happ := List.take_append_drop b l
  have l1 : (l.take b).length = b := by rw [List.length_take]; omega
  have l2 : (l.drop b).length = l.length - b := List.length_drop
  have hr' := hr
  rw [← happ] at hr'
  obtain ⟨r1, r2, _⟩ := riseI_append.1 hr'
  cases ht : l.take b with
  | nil => rw [ht] at l1; simp at l1; omega
  | cons z ra =>
   cases hd : l.drop b with
   | nil => rw [hd] at l2; simp at l2; omega
   | cons y rb =>
    rw [ht] at b3 r1
    rw [hd] at b3 r2
    rw [ht, hd] at hsp
    exact .inr ⟨by omega, z, ra, y, rb, hsp, r1, r2, by omega, by omega⟩
theorem layI_set (x : Item) : ∀ l : List Item, (layI (setI l x)).length ≤ (layI l).length + x.lay.length
 | [] => by simp [setI_nil, layI]
 | y :: l => by
  have := layI_set x l
  rw [setI_cons]
  split
  ·simp only [layI, List.length_append]; omega
  ·split <;> simp only [layI, List.length_append] <;> omega
theorem setI_fit {l : List Item} {x : Item} (hr : riseI l = true) (hl : (layI l).length ≤ 240) (hx : x.right = true) : FitI (setI l x) := by
 refine FitI.of (setI_rise hr hx) ?_
 have := layI_set x l
 have := Item.lay_right hx
 omega
theorem LeafAt.append {M : Store} : ∀ {a b : List Item} {ps : List Pair} {ids : List Int}, LeafAt M (a ++ b) ps ids → ∃ p1 p2 i1 i2, ps = p1 ++ p2 ∧ ids = i1 ++ i2 ∧ LeafAt M a p1 i1 ∧ LeafAt M b p2 i2
 | [], b, ps, ids, h => ⟨[], ps, [], ids, rfl, rfl, ⟨rfl, rfl⟩, h⟩
 | x :: a, b, ps, ids, ⟨v, ps', i1, i2, h1, h2, h3, h4⟩ => by
  obtain ⟨p1, p2, j1, j2, rfl, rfl, h5, h6⟩ := LeafAt.append h4
  exact ⟨(x.key, v) :: p1, p2, i1 ++ j1, j2, by rw [h1]; rfl, by rw [h2]; simp, ⟨v, p1, i1, j1, rfl, rfl, h3, h5⟩, h6⟩
theorem LeafAt.grow {M M' : Store} {l : List Item} {ps : List Pair} {ids new : List Int} (h : LeafAt M l ps ids) (hg : Grow M M' new) : LeafAt M' l ps ids := h.same (hg.sameOn h.there)
theorem ValAt.grow {M M' : Store} {x : Item} {v : Bytes} {ids new : List Int} (h : ValAt M x v ids) (hg : Grow M M' new) : ValAt M' x v ids := h.same (hg.sameOn h.there)
def OldAt (M : Store) (items : List Item) (key : Bytes) (ps : List Pair) (old : List Int) : Prop :=
 (isAt key items = false ∧ old = []) ∨ ∃ it v', isAt key items = true ∧ items[ahead key items]? = some it ∧ ValAt M it v' old ∧ (key, v') ∈ ps
theorem leaf_set {M : Store} {key : Bytes} : ∀ {items : List Item} {ps : List Pair} {i2 : List Int}, riseI items = true → LeafAt M items ps i2 →
  ∃ old, OldAt M items key ps old ∧ ∀ (Mc : Store) (x : Item) (v : Bytes) (newc : List Int), x.key = key → Grow M Mc newc → ValAt Mc x v newc → ∃ i2', LeafAt Mc (setI items x) (insP key v ps) i2' ∧ (i2' ++ old).Perm (i2 ++ newc)
 | [], ps, i2, hr, h => by
  obtain ⟨rfl, rfl⟩ := h
  exact ⟨[], .inl ⟨rfl, rfl⟩, fun Mc x v newc hk hg hx => ⟨newc, ⟨v, [], newc, [], by rw [← hk]; rfl, by simp, hx, rfl, rfl⟩, by simp⟩⟩
 | y :: l, ps, i2, hr, h => by
  obtain ⟨v1, ps', j1, j2, rfl, rfl, h3, h4⟩ := h
  have hr1 := (riseI_tail hr).1
  simp only [insP, OldAt, isAt, ahead]
  by_cases hlt : lessB y.key key = true
  ·obtain ⟨old, q1, q2⟩ := leaf_set (key := key) hr1 h4
   refine ⟨old, ?_, fun Mc x v newc hk hg hx => ?_⟩
   ·simp only [hlt, if_true]
    rcases q1 with q1 | ⟨it, v', k1, k2, k3, k4⟩
    ·exact .inl q1
    ·exact .inr ⟨it, v', k1, by simpa using k2, k3, List.mem_cons_of_mem _ k4⟩
   ·obtain ⟨i2', q3, q4⟩ := q2 Mc x v newc hk hg hx
    refine ⟨j1 ++ i2', ?_, ?_⟩
    ·rw [setI_cons, hk]
     simp only [hlt, if_true]
     exact ⟨v1, _, j1, i2', rfl, rfl, h3.grow hg, q3⟩
    ·rw [List.perm_iff_count] at q4 ⊢
     intro a
     have := q4 a
     simp only [List.count_append] at this ⊢
     omega
  ·by_cases he : y.key = key
   ·refine ⟨j1, ?_, fun Mc x v newc hk hg hx => ⟨newc ++ j2, ?_, ?_⟩⟩
    ·refine .inr ⟨y, v1, ?_, ?_, h3, ?_⟩
     ·rw [if_neg hlt]; simpa using he
     ·rw [if_neg hlt]; rfl
     ·rw [← he]; exact List.mem_cons_self ..
    ·rw [setI_cons, hk, if_neg hlt, if_pos he, if_neg hlt, if_neg (by rw [he, lessB_irrefl]; simp)]
     exact ⟨v, ps', newc, j2, by rw [hk], rfl, hx, h4.grow hg⟩
    ·rw [List.perm_iff_count]
     intro a
     simp only [List.count_append]
     omega
   ·have hgt : lessB key y.key = true := by
     rcases lessB_total y.key key with h | h | h
     ·exact absurd h hlt
     ·exact absurd h he
     ·exact h
    refine ⟨[], ?_, fun Mc x v newc hk hg hx => ⟨newc ++ (j1 ++ j2), ?_, ?_⟩⟩
    ·refine .inl ⟨?_, rfl⟩
     rw [if_neg hlt]; simpa using he
    ·rw [setI_cons, hk, if_neg hlt, if_neg he, if_neg hlt, if_pos hgt]
     exact ⟨v, _, newc, j1 ++ j2, by rw [hk], rfl, hx, v1, ps', j1, j2, rfl, rfl, h3.grow hg, h4.grow hg⟩
    ·rw [List.perm_iff_count]
     intro a
     simp only [List.count_append, List.count_nil]
     omega
theorem LeafAt.ne {M : Store} {l : List Item} {ps : List Pair} {ids : List Int} (h : LeafAt M l ps ids) (hl : l ≠ []) : ps ≠ [] := by
 cases l with
 | nil => exact absurd rfl hl
 | cons x l => obtain ⟨v, ps', i1, i2, rfl, _⟩ := h; simp
theorem LaidI.tree {M M2 : Store} {d : Nat} {hi : Option Bytes} {lo : Bytes} {l : List Item} {ps : List Pair} {ids new2 : List Int} {kids : List Child} (hs : LeafAt M l ps ids) (hne : l ≠ []) (hf : FitI l) (hR : ∀ p ∈ ps, inR lo hi p.1) (h : LaidI M l kids M2 new2) :
  Grow M M2 new2 ∧ KidsFit kids ∧ ∃ idk, Seg (Sub M2 d 0) (headKey lo kids) hi ps idk ∧ idk.Perm (new2 ++ ids) := by
 have hpn := hs.ne hne
 rcases h with ⟨i, h1, h2, h3, h4, rfl, rfl, rfl⟩ | ⟨a, y, rb, i1, i2, h1, h2, h3, h4, h5, h6, h7, h8, rfl, rfl, rfl⟩
 ·have hg : Grow M (updS M i (some ⟨2, 0, layI l⟩)) [i] := Grow.one h2
  refine ⟨hg, ⟨by simp, by simp, fun x hx => ?_⟩, i :: ids, ⟨ps, [], i :: ids, [], by simp, by simp, ⟨⟨l, ids, ?_, hf.rise, h1, hs.grow hg, rfl, hR⟩, hpn⟩, rfl, rfl⟩, by simp⟩
  ·rw [List.mem_singleton.1 hx]
   exact Child.fit_iff.2 ⟨h3, (by dsimp only; omega), by simp⟩
  ·unfold updS; simp
 ·have happ := splitI_app h2
  obtain ⟨_, z', ra', y', rb', e0, r1, r2, r3, r4⟩ := hf.fit.resolve_left (by omega)
  rw [h2] at e0
  simp only [Prod.mk.injEq, List.cons.injEq] at e0
  obtain ⟨rfl, rfl, rfl⟩ := e0
  rw [← happ] at hs
  have hrise := hf.rise
  rw [← happ] at hrise
  obtain ⟨_, _, hcross⟩ := riseI_append.1 hrise
  obtain ⟨p1, p2, j1, j2, rfl, rfl, s1, s2⟩ := hs.append
  have n1 := s1.ne (by simp)
  have n2 := s2.ne (by simp)
  have hg := (Grow.one (x := ⟨2, 0, layI (z' :: ra')⟩) h3).trans (Grow.one (x := ⟨2, 0, layI (y :: rb)⟩) h6)
  have hn12 : i1 ≠ i2 := by
   rintro rfl
   simp [updS] at h6
  obtain ⟨k1, m1⟩ := leaf_rising s1 r1
  obtain ⟨k2, m2⟩ := leaf_rising s2 r2
  have hyr := Item.right_key (riseI_right r2 y (List.mem_cons_self ..))
  have R1 : ∀ q ∈ p1, inR lo (some y.key) q.1 := fun q hq => by
   refine ⟨(hR q (List.mem_append_left _ hq)).1, fun h hh => ?_⟩
   cases hh
   have : q.1 ∈ p1.map (·.1) := List.mem_map_of_mem hq
   rw [m1] at this
   obtain ⟨it, hit, e⟩ := List.mem_map.1 this
   rw [← e]
   exact hcross it hit y (List.mem_cons_self ..)
  have R2 : ∀ q ∈ p2, inR y.key hi q.1 := fun q hq => by
   refine ⟨?_, (hR q (List.mem_append_right _ hq)).2⟩
   have : q.1 ∈ p2.map (·.1) := List.mem_map_of_mem hq
   rw [m2] at this
   obtain ⟨it, hit, e⟩ := List.mem_map.1 this
   rw [← e]
   rcases List.mem_cons.1 hit with rfl | hit
   ·exact lessB_irrefl _
   ·exact lessB_asymm ((riseI_tail r2).2 it hit)
  refine ⟨hg, ⟨by simp, by simp, fun x hx => ?_⟩, i1 :: j1 ++ (i2 :: j2), ⟨p1, p2, i1 :: j1, i2 :: j2, rfl, rfl, ⟨⟨z' :: ra', j1, ?_, r1, r3, s1.grow hg, rfl, R1⟩, n1⟩, p2, [], i2 :: j2, [], by simp, by simp, ⟨⟨y :: rb, j2, ?_, r2, r4, s2.grow hg, rfl, R2⟩, n2⟩, rfl, rfl⟩, ?_⟩
  ·rcases List.mem_cons.1 hx with rfl | hx
   ·exact Child.fit_iff.2 ⟨h4, (by dsimp only; omega), by simp⟩
   ·rw [List.mem_singleton.1 hx]
    exact Child.fit_iff.2 ⟨h7, (by dsimp only; omega), hyr.2⟩
  ·show updS (updS M i1 _) i2 _ i1 = _
   unfold updS
   rw [if_neg hn12, if_pos rfl]
  ·show updS (updS M i1 _) i2 _ i2 = _
   unfold updS
   rw [if_pos rfl]
  ·rw [List.perm_iff_count]
   intro a
   simp only [List.count_append, List.count_cons, List.count_nil, List.cons_append, List.nil_append]
   omega
theorem Laid.rekey {M M' : Store} {k : Bytes} {L kids : List Child} {new : List Int} (h : Laid M k L kids M' new) : Laid M [] L (headKey [] kids) M' new := by
 rcases h with ⟨i, h1, h2, h3, h4, rfl, h6, h7⟩ | ⟨z, ra, y, rb, i1, i2, h1, h2, h3, h4, h5, h6, h7, h8, rfl, h9, h10⟩
 ·exact .inl ⟨i, h1, h2, h3, h4, rfl, h6, h7⟩
 ·exact .inr ⟨z, ra, y, rb, i1, i2, h1, h2, h3, h4, h5, h6, h7, h8, rfl, h9, h10⟩
theorem two_fit {c1 c2 : Child} (h1 : c1.fit = true) (h2 : c2.fit = true) (hk : c2.key ≠ []) : FitP (headKey [] [c1, c2]) := by
 have hf : ∀ x ∈ headKey [] [c1, c2], x.fit = true := headKey_fit fun x hx => by
  rcases List.mem_cons.1 hx with rfl | hx
  ·exact h1
  ·rw [List.mem_singleton.1 hx]; exact h2
 refine FitP.of ?_ ?_
 ·simp only [headKey]
  rw [rightC_cons]
  refine ⟨hf _ (List.mem_cons_self ..), rfl, ?_⟩
  simp only [riseC, Bool.and_eq_true]
  exact ⟨⟨h2, lessB_pos hk⟩, trivial⟩
 ·have := layC_le51 (L := headKey [] [c1, c2]) fun z hz => (Child.lay_fit (hf z hz)).1
  simp [headKey] at this ⊢
  omega
end Go.Ev

namespace Go.Ev
open Go.Lib
def Child.vlen (c : Child) : Nat := (textB c.key).length + 10
def vsz : List Child → Nat
 | [] => 0
 | c :: L => c.vlen + vsz L
theorem textB_len {s : Bytes} (h : s.length ≤ 40) : (textB s).length = s.length + 1 := by
 unfold textB
 rw [List.length_append, varB_small (n := s.length) (by omega)]
 omega
theorem vlen_le {c : Child} (h : c.fit = true) : c.vlen ≤ 51 ∧ 11 ≤ c.vlen ∧ c.lay.length ≤ c.vlen := by
 obtain ⟨h1, h2, h3⟩ := Child.fit_iff.1 h
 have e1 := textB_len h3
 have e2 := varB_len c.page ⟨by omega, by omega⟩
 unfold Child.vlen Child.lay
 rw [List.length_append]
 omega
theorem vsz_app : ∀ a b : List Child, vsz (a ++ b) = vsz a + vsz b
 | [], b => by simp [vsz]
 | c :: a, b => by simp only [List.cons_append, vsz, vsz_app a b]; omega
theorem vsz_lay : ∀ {L : List Child}, (∀ x ∈ L, x.fit = true) → (layC L).length ≤ vsz L
 | [], _ => Nat.le_refl _
 | c :: L, h => by
  have h1 := (vlen_le (h c (List.mem_cons_self ..))).2.2
  have h2 := vsz_lay (L := L) fun x hx => h x (List.mem_cons_of_mem _ hx)
  simp only [layC, vsz, List.length_append]
  omega
theorem vsz_head_le {L : List Child} (h : ∀ x ∈ L, x.fit = true) : vsz (headKey [] L) ≤ vsz L := by
 cases L with
 | nil => exact Nat.le_refl _
 | cons c L =>
  have hc := (Child.fit_iff.1 (h c (List.mem_cons_self ..))).2.2
  simp only [headKey, vsz, Child.vlen]
  rw [textB_len hc, textB_len (s := []) (by simp)]
  simp
def potB (L : List Child) : Nat := vsz L - 146
def potI (l : List Item) : Nat := (layI l).length - 172
theorem potB_split {L a b : List Child} (hf : ∀ x ∈ L, x.fit = true) (hlen : 240 < (layC L).length) (hl : (layC L).length ≤ 400) (h2 : 2 ≤ L.length) (hs : splitC L = (a, b)) : potB (headKey [] a) + potB (headKey [] b) + 94 ≤ potB L := by
 have hg : ∀ x ∈ L, x.lay.length ≤ 51 := fun x hx => (Child.lay_fit (hf x hx)).1
 obtain ⟨q1, q2, q3⟩ := costC_half hg h2
 have happ := splitC_app hs
 unfold splitC at hs
 rw [if_neg (by omega)] at hs
 simp only [Prod.mk.injEq] at hs
 obtain ⟨ha, hb⟩ := hs
 have fa : ∀ x ∈ a, x.fit = true := fun x hx => hf x (by rw [← happ]; exact List.mem_append_left _ hx)
 have fb : ∀ x ∈ b, x.fit = true := fun x hx => hf x (by rw [← happ]; exact List.mem_append_right _ hx)
 have hv : vsz L = vsz a + vsz b := by rw [← happ, vsz_app]
 have la := vsz_lay fa
 have lb := vsz_lay fb
 have hlay : (layC L).length = (layC a).length + (layC b).length := by rw [← happ, layC_append, List.length_append]
 generalize bestAt (costC L) L.length = j at *
 unfold costC at q3
 rw [ha, hb] at q3
 have h1 := vsz_head_le fa
 have h3 := vsz_head_le fb
 unfold potB
 omega
theorem potI_split {l a b : List Item} (hr : ∀ x ∈ l, x.right = true) (hlen : 240 < (layI l).length) (h2 : 2 ≤ l.length) (hs : splitI l = (a, b)) : potI a + potI b + 68 ≤ potI l := by
 have hg : ∀ x ∈ l, x.lay.length ≤ 104 := fun x hx => Item.lay_right (hr x hx)
 obtain ⟨q1, q2, q3⟩ := costI_half hg h2
 have happ := splitI_app hs
 unfold splitI at hs
 rw [if_neg (by omega)] at hs
 simp only [Prod.mk.injEq] at hs
 obtain ⟨ha, hb⟩ := hs
 have hlay : (layI l).length = (layI a).length + (layI b).length := by rw [← happ, layI_append, List.length_append]
 generalize bestAt (costI l) l.length = j at *
 unfold costI at q3
 rw [ha, hb] at q3
 unfold potI
 omega
-- measures of a tree's levels
def itemsAt (M : Store) (id : Int) : List Item := match M id with | some x => (getI x.body).1 | none => []
def kidsAt (M : Store) (id : Int) : List Child := match M id with | some x => (getC x.body).1 | none => []
theorem itemsAt_of {M : Store} {id : Int} {l : List Item} (h : M id = some ⟨2, 0, layI l⟩) (hr : riseI l = true) (hs : (layI l).length ≤ 240) : itemsAt M id = l := by
 unfold itemsAt
 rw [h]
 show (getI (layI l)).1 = l
 rw [getI_put hr hs]
theorem kidsAt_of {M : Store} {id : Int} {L : List Child} (h : M id = some ⟨3, 0, layC L⟩) (hr : rightC L = true) (hs : (layC L).length ≤ 240) : kidsAt M id = L := by
 unfold kidsAt
 rw [h]
 show (getC (layC L)).1 = L
 rw [getC_put hr hs]
def sumN {α : Type} (f : α → Nat) : List α → Nat
 | [] => 0
 | x :: l => f x + sumN f l
theorem sumN_app {α : Type} (f : α → Nat) : ∀ a b : List α, sumN f (a ++ b) = sumN f a + sumN f b
 | [], b => by simp [sumN]
 | x :: a, b => by simp only [List.cons_append, sumN, sumN_app f a b]; omega
def meas (f : List Item → Nat) (g : List Child → Nat) (M : Store) : Nat → Int → Nat → Nat
 | 0, id, l => if l = 0 then f (itemsAt M id) else 0
 | k + 1, id, l => if l = k + 1 then g (kidsAt M id) else sumN (fun c => meas f g M k c.page l) (kidsAt M id)
def measL (f : List Item → Nat) (g : List Child → Nat) (M : Store) (k : Nat) (L : List Child) (l : Nat) : Nat := sumN (fun c => meas f g M k c.page l) L
theorem measL_head (f : List Item → Nat) (g : List Child → Nat) (M : Store) (k : Nat) (key : Bytes) (L : List Child) (l : Nat) : measL f g M k (headKey key L) l = measL f g M k L l := by
 cases L with
 | nil => rfl
 | cons c L => rfl
theorem meas_same {f : List Item → Nat} {g : List Child → Nat} {M M' : Store} {d : Nat} : ∀ {k : Nat} {id : Int} {lo : Bytes} {hi : Option Bytes} {ps : List Pair} {ids : List Int}, TreeAt M d k id lo hi ps ids → SameOn M M' ids → ∀ l, meas f g M' k id l = meas f g M k id l
 | 0, id, lo, hi, ps, ids, ⟨items, i2, h1, h2, h3, h4, h5, h6⟩, hs, l => by
  have h1' : M' id = some ⟨2, 0, layI items⟩ := by rw [hs id (by rw [h5]; exact List.mem_cons_self ..), h1]
  simp only [meas, itemsAt_of h1 h2 h3, itemsAt_of h1' h2 h3]
 | k + 1, id, lo, hi, ps, ids, ⟨c, L, i2, h1, h2, h3, h4, h5, h6, h7⟩, hs, l => by
  have h1' : M' id = some ⟨3, 0, layC (headKey [] (c :: L))⟩ := by rw [hs id (by rw [h7]; exact List.mem_cons_self ..), h1]
  simp only [meas, kidsAt_of h1 h2 h3, kidsAt_of h1' h2 h3]
  split
  ·rfl
  ·have key : ∀ {L : List Child} {hi : Option Bytes} {ps : List Pair} {i2 : List Int}, Seg (Sub M d k) L hi ps i2 → SameOn M M' i2 → measL f g M' k L l = measL f g M k L l := by
    intro L
    induction L with
    | nil => intro _ _ _ _ _; rfl
    | cons y L ih =>
     rintro hi ps i2 ⟨p1, p2, j1, j2, rfl, rfl, q1, q2⟩ hs2
     show meas f g M' k y.page l + measL f g M' k L l = meas f g M k y.page l + measL f g M k L l
     rw [meas_same q1.1 (SameOn.left hs2), ih q2 (SameOn.right hs2)]
   have := key h6 (fun i hi => hs i (by rw [h7]; exact List.mem_cons_of_mem _ hi))
   exact this
end Go.Ev

namespace Go.Ev
open Go.Lib
def LaidG (M : Store) (all kids : List Child) (M' : Store) (new : List Int) : Prop := (all = [] ∧ kids = [] ∧ M' = M ∧ new = []) ∨ (all ≠ [] ∧ Laid M [] all kids M' new)
inductive UpsG (M : Store) (kids : List Child) : List (Int × Nat × List Child) → Store → List Child → List Int → Prop
 | nil : UpsG M kids [] M kids []
 | snoc {pre : List (Int × Nat × List Child)} {M1 M2 : Store} {kids1 kids2 : List Child} {new new2 : List Int} {id : Int} {i : Nat} {L : List Child} {c : Child} : UpsG M kids pre M1 kids1 new → L[i]? = some c → LaidG M1 (allC L i c kids1) kids2 M2 new2 → UpsG M kids (pre ++ [(id, i, L)]) M2 kids2 (new ++ new2)
theorem UpsG.last {M M2 : Store} {kids kids2 : List Child} {pre : List (Int × Nat × List Child)} {id : Int} {i : Nat} {L : List Child} {nn : List Int} (h : UpsG M kids (pre ++ [(id, i, L)]) M2 kids2 nn) :
  ∃ M1 kids1 new new2 c, UpsG M kids pre M1 kids1 new ∧ L[i]? = some c ∧ LaidG M1 (allC L i c kids1) kids2 M2 new2 ∧ nn = new ++ new2 := by
 generalize hG : pre ++ [(id, i, L)] = G at h
 cases h with
 | nil => simp at hG
 | snoc h1 h2 h3 =>
  obtain ⟨e1, e2⟩ := List.append_inj' hG rfl
  simp only [List.cons.injEq, Prod.mk.injEq, and_true] at e2
  obtain ⟨_, rfl, rfl⟩ := e2
  subst e1
  exact ⟨_, _, _, _, _, h1, h2, h3, rfl⟩
theorem UpsG.none {M M2 : Store} {kids kids2 : List Child} {nn : List Int} (h : UpsG M kids [] M2 kids2 nn) : M2 = M ∧ kids2 = kids ∧ nn = [] := by
 generalize hG : ([] : List (Int × Nat × List Child)) = G at h
 cases h with
 | nil => exact ⟨rfl, rfl, rfl⟩
 | snoc h1 h2 h3 => simp at hG
structure KidsG (kids : List Child) : Prop where
 two : kids.length ≤ 2
 fit : ∀ x ∈ kids, x.fit = true
theorem KidsFit.g {kids : List Child} (h : KidsFit kids) : KidsG kids := ⟨h.two, h.fit⟩
def AllFitG (M1 : Store) (kids0 : List Child) (G : List (Int × Nat × List Child)) : Prop :=
 ∀ pre s post M2 kids1 new, G = pre ++ s :: post → UpsG M1 kids0 pre M2 kids1 new → ∀ c, s.2.2[s.2.1]? = some c → KidsG kids1 ∧ (allC s.2.2 s.2.1 c kids1 ≠ [] → FitP (allC s.2.2 s.2.1 c kids1))
def MeasG (M M2 : Store) (k : Nat) (id : Int) (kids : List Child) (a s0 : Nat) : Prop :=
 ∃ s : Nat → Nat, s 0 = s0 ∧ kids.length ≤ 1 + s k ∧ measL potI potB M2 k kids 0 + 68 * s0 ≤ meas potI potB M k id 0 + a ∧ (∀ l, l < k → measL potI potB M2 k kids (l + 1) + 94 * s (l + 1) ≤ meas potI potB M k id (l + 1) + 51 * s l) ∧
  ∀ l, l ≤ k → measL (fun _ => 1) (fun _ => 1) M2 k kids l ≤ meas (fun _ => 1) (fun _ => 1) M k id l + s l
theorem measL_app (f : List Item → Nat) (g : List Child → Nat) (M : Store) (k : Nat) (a b : List Child) (l : Nat) : measL f g M k (a ++ b) l = measL f g M k a l + measL f g M k b l := sumN_app _ a b
theorem seg_meas {f : List Item → Nat} {g : List Child → Nat} {M M' : Store} {d k : Nat} {hi : Option Bytes} : ∀ {L : List Child} {ps : List Pair} {ids : List Int}, Seg (Sub M d k) L hi ps ids → SameOn M M' ids → ∀ l, measL f g M' k L l = measL f g M k L l
 | [], _, _, _, _, _ => rfl
 | c :: L, _, _, ⟨p1, p2, i1, i2, _, h2, h3, h4⟩, hs, l => by
  subst h2
  show meas f g M' k c.page l + measL f g M' k L l = meas f g M k c.page l + measL f g M k L l
  rw [meas_same h3.1 (SameOn.left hs), seg_meas h4 (SameOn.right hs)]
theorem meas_up {f : List Item → Nat} {g : List Child → Nat} {M : Store} {k : Nat} {id : Int} {L : List Child} (h : M id = some ⟨3, 0, layC L⟩) (hr : rightC L = true) (hs : (layC L).length ≤ 240) : meas f g M (k + 1) id (k + 1) = g L ∧ ∀ l, l ≤ k → meas f g M (k + 1) id l = measL f g M k L l := by
 simp only [meas, kidsAt_of h hr hs, if_true, true_and]
 intro l hl
 rw [if_neg (by omega)]
 rfl
theorem laid_meas {M M2 : Store} {d k : Nat} {hi : Option Bytes} {ps : List Pair} {ids new2 : List Int} {R all kids2 : List Child} (hall : all = headKey [] R) (hne : all ≠ []) (hs : Seg (Sub M d k) R hi ps ids) (hf : FitP all) (h : Laid M [] all kids2 M2 new2) :
  ∃ σ, σ ≤ 1 ∧ kids2.length = 1 + σ ∧ measL potI potB M2 (k + 1) kids2 (k + 1) + 94 * σ ≤ potB all ∧ measL (fun _ => 1) (fun _ => 1) M2 (k + 1) kids2 (k + 1) = 1 + σ ∧ ∀ (f : List Item → Nat) (g : List Child → Nat) l, l ≤ k → measL f g M2 (k + 1) kids2 l = measL f g M k R l := by
 subst hall
 rcases h with ⟨i, h1, h2, h3, h4, rfl, rfl, rfl⟩ | ⟨z, ra, y, rb, i1, i2, h1, h2, h3, h4, h5, h6, h7, h8, rfl, rfl, rfl⟩
 ·have hg : Grow M (updS M i (some ⟨3, 0, layC (headKey [] R)⟩)) [i] := Grow.one h2
  have hi : updS M i (some ⟨3, 0, layC (headKey [] R)⟩) i = some ⟨3, 0, layC (headKey [] R)⟩ := by unfold updS; simp
  have hm : ∀ (f : List Item → Nat) (g : List Child → Nat), _ := fun f g => meas_up (f := f) (g := g) (k := k) hi hf.right h1
  refine ⟨0, by omega, rfl, ?_, ?_, fun f g l hl => ?_⟩
  ·show meas potI potB _ (k + 1) i (k + 1) + 0 + 94 * 0 ≤ _
   rw [(hm _ _).1]
   omega
  ·show meas _ _ _ (k + 1) i (k + 1) + 0 = _
   rw [(hm _ _).1]
  ·show meas f g _ (k + 1) i l + 0 = _
   rw [(hm f g).2 l hl, measL_head, seg_meas hs (hg.sameOn (seg_there hs))]
   rfl
 ·have happ := splitC_app h2
  obtain ⟨_, z', ra', y', rb', e0, r1, r2, r3, r4, r5, r6⟩ := hf.fit.resolve_left (by omega)
  rw [h2] at e0
  simp only [Prod.mk.injEq, List.cons.injEq] at e0
  obtain ⟨⟨rfl, rfl⟩, rfl, rfl⟩ := e0
  have g1 : Grow M (updS M i1 (some ⟨3, 0, layC (headKey [] (z :: ra))⟩)) [i1] := Grow.one h3
  have g2 := Grow.one (x := ⟨3, 0, layC (headKey [] (y :: rb))⟩) h6
  have hg := g1.trans g2
  have hn12 : i1 ≠ i2 := by
   rintro rfl
   simp [updS] at h6
  have q1 : updS (updS M i1 (some ⟨3, 0, layC (headKey [] (z :: ra))⟩)) i2 (some ⟨3, 0, layC (headKey [] (y :: rb))⟩) i1 = some ⟨3, 0, layC (headKey [] (z :: ra))⟩ := by
   unfold updS
   rw [if_neg hn12, if_pos rfl]
  have q2 : updS (updS M i1 (some ⟨3, 0, layC (headKey [] (z :: ra))⟩)) i2 (some ⟨3, 0, layC (headKey [] (y :: rb))⟩) i2 = some ⟨3, 0, layC (headKey [] (y :: rb))⟩ := by
   unfold updS
   rw [if_pos rfl]
  have m1 : ∀ (f : List Item → Nat) (g : List Child → Nat), _ := fun f g => meas_up (f := f) (g := g) (k := k) q1 r1 r3
  have m2 : ∀ (f : List Item → Nat) (g : List Child → Nat), _ := fun f g => meas_up (f := f) (g := g) (k := k) q2 r2 r4
  have hsp := potB_split (fun x hx => rightC_fit hf.right x hx) h1 hf.len (by rw [← happ, List.length_append]; simp; omega) h2
  refine ⟨1, by omega, rfl, ?_, ?_, fun f g l hl => ?_⟩
  ·show meas potI potB _ (k + 1) i1 (k + 1) + (meas potI potB _ (k + 1) i2 (k + 1) + 0) + 94 * 1 ≤ _
   rw [(m1 _ _).1, (m2 _ _).1]
   omega
  ·show meas _ _ _ (k + 1) i1 (k + 1) + (meas _ _ _ (k + 1) i2 (k + 1) + 0) = _
   rw [(m1 _ _).1, (m2 _ _).1]
  ·show meas f g _ (k + 1) i1 l + (meas f g _ (k + 1) i2 l + 0) = _
   rw [(m1 f g).2 l hl, (m2 f g).2 l hl, measL_head, measL_head, Nat.add_zero, ← measL_app, happ, measL_head, seg_meas hs (hg.sameOn (seg_there hs))]
theorem allC_vsz {L kids : List Child} {i : Nat} {x : Child} (hx : L[i]? = some x) (hL : ∀ z ∈ L, z.fit = true) (hk : ∀ z ∈ kids, z.fit = true) : vsz (allC L i x kids) ≤ vsz L + 51 * (kids.length - 1) := by
 have hil : i < L.length := (List.getElem?_eq_some_iff.1 hx).1
 have hxk : x.key.length ≤ 40 := (Child.fit_iff.1 (hL x (List.mem_of_getElem? hx))).2.2
 have hsp : vsz L = vsz (L.take i) + (x.vlen + vsz (L.drop (i + 1))) := by
  have e : L.drop i = x :: L.drop (i + 1) := by
   rw [List.drop_eq_getElem_cons hil]
   rw [List.getElem?_eq_getElem hil, Option.some.injEq] at hx
   rw [hx]
  have : vsz L = vsz (L.take i ++ L.drop i) := by rw [List.take_append_drop]
  rw [this, vsz_app, e]
  rfl
 have hfit : ∀ z ∈ L.take i ++ headKey x.key kids ++ L.drop (i + 1), z.fit = true := fun z hz => by
  rcases List.mem_append.1 hz with hz | hz
  ·rcases List.mem_append.1 hz with hz | hz
   ·exact hL z (List.mem_of_mem_take hz)
   ·exact headKey_fit' hxk hk z hz
  ·exact hL z (List.mem_of_mem_drop hz)
 have h1 := vsz_head_le hfit
 have h2 : vsz (headKey x.key kids) ≤ x.vlen + 51 * (kids.length - 1) := by
  cases kids with
  | nil => simp [headKey, vsz]
  | cons c l =>
   have h3 : ∀ l : List Child, (∀ z ∈ l, z.fit = true) → vsz l ≤ 51 * l.length := by
    intro l
    induction l with
    | nil => intro _; simp [vsz]
    | cons z l ih =>
     intro h
     have q1 := (vlen_le (h z (List.mem_cons_self ..))).1
     have q2 := ih fun w hw => h w (List.mem_cons_of_mem _ hw)
     simp only [vsz, List.length_cons]
     omega
   have h4 := h3 l fun z hz => hk z (List.mem_cons_of_mem _ hz)
   simp only [headKey, vsz, List.length_cons, Nat.add_sub_cancel]
   have : ({ c with key := x.key } : Child).vlen = x.vlen := rfl
   omega
 unfold allC
 rw [vsz_app, vsz_app] at h1
 omega
def UpsTreeG (M M1 : Store) (kids0 : List Child) (new0 gone : List Int) (a s0 : Nat) (id : Int) (G : List (Int × Nat × List Child)) (k : Nat) (lo : Bytes) (hi : Option Bytes) (ps : List Pair) (ids : List Int) : Prop :=
 ∀ M2 kids1 new, UpsG M1 kids0 G M2 kids1 new → Grow M M2 (new0 ++ new) ∧ KidsG kids1 ∧ ∃ idk, Seg (Sub M2 1 k) (headKey lo kids1) hi ps idk ∧ (idk ++ gone ++ G.map (·.1)).Perm (ids ++ new0 ++ new) ∧ MeasG M M2 k id kids1 a s0
def RowG (M M1 : Store) (kids0 : List Child) (new0 gone : List Int) (a s0 : Nat) (id : Int) (G : List (Int × Nat × List Child)) (k : Nat) (lo : Bytes) (hi : Option Bytes) (ps : List Pair) (ids : List Int) : Prop :=
 ∀ pre s M2 kids1 new c, G = pre ++ [s] → UpsG M1 kids0 pre M2 kids1 new → s.2.2[s.2.1]? = some c → s.1 = id ∧ Grow M M2 (new0 ++ new) ∧ ∃ j R idf, k = j + 1 ∧ allC s.2.2 s.2.1 c kids1 = headKey [] R ∧ (∀ c' L2, R = c' :: L2 → c'.key = lo) ∧ Seg (Sub M2 1 j) R hi ps idf ∧
  (idf ++ gone ++ (pre.map (·.1) ++ [id])).Perm (ids ++ new0 ++ new) ∧ ∃ s' : Nat → Nat, s' 0 = s0 ∧ measL potI potB M2 j R 0 + 68 * s0 ≤ meas potI potB M k id 0 + a ∧ (∀ l, l < j → measL potI potB M2 j R (l + 1) + 94 * s' (l + 1) ≤ meas potI potB M k id (l + 1) + 51 * s' l) ∧
   ∀ l, l ≤ j → measL (fun _ => 1) (fun _ => 1) M2 j R l ≤ meas (fun _ => 1) (fun _ => 1) M k id l + s' l
structure TurnAt (key : Bytes) (F : List Pair → List Pair) : Prop where
 pre : ∀ a b : List Pair, (∀ q ∈ a, lessB q.1 key = true) → F (a ++ b) = a ++ F b
 post : ∀ a b : List Pair, (∀ q ∈ b, lessB key q.1 = true) → F (a ++ b) = F a ++ b
theorem TurnAt.ins (key v : Bytes) : TurnAt key (insP key v) := ⟨fun _ _ h => insP_pre h, fun _ _ h => insP_post h⟩
theorem TurnAt.del (key : Bytes) : TurnAt key (delP key) := ⟨fun _ _ h => delP_pre fun q hq => lessB_ne (h q hq), fun _ _ h => delP_post fun q hq => (lessB_ne (h q hq)).symm⟩
theorem Seg.widen {M : Store} {d k : Nat} {hi hi' : Option Bytes} (hh : ∀ x, hi' = some x → ∃ y, hi = some y ∧ lessB x y = false) : ∀ {L : List Child} {ps : List Pair} {ids : List Int}, Seg (Sub M d k) L hi ps ids → Seg (Sub M d k) L hi' ps ids
 | [], _, _, h => h
 | c :: L, _, _, ⟨p1, p2, i1, i2, g1, g2, ⟨g3, g4⟩, g5⟩ => by
  refine ⟨p1, p2, i1, i2, g1, g2, ⟨?_, g4⟩, Seg.widen hh g5⟩
  cases L with
  | nil => exact TreeAt.hi g3 hh
  | cons c' L => exact g3
theorem Seg.low {M : Store} {d k : Nat} {hi : Option Bytes} {lo : Bytes} {L : List Child} {ps : List Pair} {ids : List Int} (h : Seg (Sub M d k) L hi ps ids) (hl : ∀ c B, L = c :: B → lessB c.key lo = false) : Seg (Sub M d k) (headKey lo L) hi ps ids := by
 cases L with
 | nil => exact h
 | cons c L =>
  obtain ⟨p1, p2, i1, i2, g1, g2, ⟨g3, g4⟩, g5⟩ := h
  exact ⟨p1, p2, i1, i2, g1, g2, ⟨TreeAt.lo g3 (hl c L rfl), g4⟩, g5⟩
set_option maxHeartbeats 1000000 in
theorem ups_lawG {M : Store} {key : Bytes} {lid : Int} {items : List Item} {F : List Pair → List Pair} (hF0 : TurnAt key F) :
  ∀ {k : Nat} {id : Int} {P : List (Int × Nat × List Child)} {lo : Bytes} {hi : Option Bytes} {ps : List Pair} {ids : List Int}, TreeAt M 1 k id lo hi ps ids → inR lo hi key → Trail M key id P lid items →
  ∃ lo' hi' ps' ids', TreeAt M 1 0 lid lo' hi' ps' ids' ∧ inR lo' hi' key ∧ (ps ≠ [] → ps' ≠ []) ∧ (∀ x ∈ ids', x ∈ ids) ∧ (∀ q ∈ ps', q ∈ ps) ∧ (∀ x, getP key ps = some x ↔ getP key ps' = some x) ∧ ∀ M1 kids0 new0 gone a s0, Grow M M1 new0 → KidsG kids0 → MeasG M M1 0 lid kids0 a s0 →
   (∃ idl, Seg (Sub M1 1 0) (headKey lo' kids0) hi' (F ps') idl ∧ (idl ++ gone).Perm (ids' ++ new0)) → AllFitG M1 kids0 P.reverse ∧ UpsTreeG M M1 kids0 new0 gone a s0 id P.reverse k lo hi (F ps) ids ∧ RowG M M1 kids0 new0 gone a s0 id P.reverse k lo hi (F ps) ids
 | 0, id, P, lo, hi, ps, ids, ht, hin, hw => by
  have ht' := ht
  obtain ⟨its, i2, h1, h2, h3, h4, h5, h6⟩ := ht
  cases hw with
  | branch g1 => rw [h1] at g1; simp at g1
  | leaf g1 g2 g3 =>
   refine ⟨lo, hi, ps, ids, ht', hin, fun h => h, fun x hx => hx, fun q hq => hq, fun x => Iff.rfl, fun M1 kids0 new0 gone a s0 hg hk hm hl => ⟨?_, ?_, ?_⟩⟩
   ·rintro pre s post M2 kids1 new hG
    simp at hG
   ·intro M2 kids1 new hu
    obtain ⟨rfl, rfl, rfl⟩ := UpsG.none hu
    obtain ⟨idl, q1, q2⟩ := hl
    exact ⟨by simpa using hg, hk, idl, q1, by simpa using q2, hm⟩
   ·intro pre s M2 kids1 new c hG
    simp at hG
 | k + 1, id, P, lo, hi, ps, ids, ht, hin, hw => by
  obtain ⟨c, L, i2, h1, h2, h3, h4, h5, h6, h7⟩ := ht
  cases hw with
  | leaf g1 => rw [h1] at g1; simp at g1
  | @branch _ _ L' _ x P' g1 g2 g3 g4 g5 =>
   have hL : L' = headKey [] (c :: L) := by
    rw [h1] at g1
    simp only [Option.some.injEq, Pg.mk.injEq, true_and] at g1
    exact (layC_inj h2 g2 h3 g1).symm
   subst hL
   have hri : riseC [] L = true := (rightC_cons.1 h2).2.2
   have hfc : findC key (headKey [] (c :: L)) = below key L := rfl
   rw [hfc] at g4 ⊢
   generalize hi0 : below key L = i at *
   have hil : i < (c :: L).length := by have := below_le key L; simp; omega
   obtain ⟨y, hy⟩ : ∃ y, (c :: L)[i]? = some y := ⟨_, List.getElem?_eq_getElem hil⟩
   have hxy : x.page = y.page ∧ (i ≠ 0 → x = y) ∧ (i = 0 → y = c) := by
    cases i with
    | zero =>
     simp only [headKey, List.getElem?_cons_zero, Option.some.injEq] at g4 hy
     subst g4; subst hy
     exact ⟨rfl, fun h => absurd rfl h, fun _ => rfl⟩
    | succ i =>
     simp only [headKey, List.getElem?_cons_succ] at g4 hy
     rw [g4] at hy
     cases hy
     exact ⟨rfl, fun _ => rfl, fun h => by omega⟩
   have hF : c :: L = (c :: L).take i ++ y :: (c :: L).drop (i + 1) := by
    have e : (c :: L).drop i = y :: (c :: L).drop (i + 1) := by
     rw [List.drop_eq_getElem_cons hil]
     rw [List.getElem?_eq_getElem hil, Option.some.injEq] at hy
     rw [hy]
    rw [← e, List.take_append_drop]
   have hdr : (headKey [] (c :: L)).drop (i + 1) = (c :: L).drop (i + 1) := by simp [headKey]
   have hB0 : (c :: L).drop (i + 1) = L.drop i := by simp
   have hylo : lessB key y.key = false := by
    by_cases h0 : i = 0
    ·rw [hxy.2.2 h0, h5]; exact hin.1
    ·obtain ⟨z, z1, z2⟩ := below_lt (k := key) (l := L) (i := i - 1) (by omega)
     have : (c :: L)[i]? = some z := by
      obtain ⟨j, rfl⟩ : ∃ j, i = j + 1 := ⟨i - 1, by omega⟩
      simpa using z1
     rw [hy] at this
     cases this
     exact z2
   have hBhi : ∀ b B', (c :: L).drop (i + 1) = b :: B' → lessB key b.key = true := by
    intro b B' hb
    rw [hB0] at hb
    have hlt : i < L.length := by
     rcases Nat.lt_or_ge i L.length with h | h
     ·exact h
     ·rw [List.drop_of_length_le h] at hb; cases hb
    rw [List.drop_eq_getElem_cons hlt] at hb
    have hb1 := (List.cons.inj hb).1
    exact below_ge hri (by omega : below key L ≤ i) (by rw [List.getElem?_eq_getElem hlt, hb1])
   generalize hA : (c :: L).take i = A at *
   generalize hB : (c :: L).drop (i + 1) = B at *
   clear hB0
   have hs := h6
   rw [hF] at hs
   obtain ⟨p1, pr, j1, jr, rfl, rfl, s1, s2⟩ := Seg.append.1 hs
   obtain ⟨p2, p3, j2, j3, rfl, rfl, ⟨s3, s4⟩, s5⟩ := s2
   have hyhi : ∀ h, nextB B hi = some h → lessB key h = true := by
    intro h hh
    cases hBB : B with
    | nil => rw [hBB] at hh; exact hin.2 h hh
    | cons b B' =>
     rw [hBB] at hh
     have := hBhi b B' hBB
     simp only [nextB, Option.some.injEq] at hh
     rw [← hh]; exact this
   have hp1 : ∀ q ∈ p1, lessB q.1 key = true := by
    intro q hq
    cases hAA : A with
    | nil => rw [hAA] at s1; rw [s1.1] at hq; simp at hq
    | cons a A' =>
     rw [hAA] at s1
     exact lessB_of_lt_le ((Seg.inR s1 q hq).2 y.key rfl) hylo
   have hp3 : ∀ q ∈ p3, lessB key q.1 = true := by
    intro q hq
    cases hBB : B with
    | nil => rw [hBB] at s5; rw [s5.1] at hq; simp at hq
    | cons b B' =>
     have hk1 := hBhi b B' hBB
     rw [hBB] at s5
     exact lessB_of_lt_le hk1 (Seg.inR s5 q hq).1
   have hgp : ∀ u, getP key (p1 ++ (p2 ++ p3)) = some u ↔ getP key p2 = some u := by
    intro u
    rw [getP_pre fun q hq => lessB_ne (hp1 q hq), getP_post fun q hq => (lessB_ne (hp3 q hq)).symm]
   have hins : F (p1 ++ (p2 ++ p3)) = p1 ++ (F p2 ++ p3) := by
    rw [hF0.pre _ _ hp1, hF0.post _ _ hp3]
   -- the gap that a child leaves
   have hgap : ∀ z, nextB B hi = some z → lessB z y.key = false := by
    intro z hz
    obtain ⟨q, hq⟩ := List.exists_mem_of_ne_nil _ s4
    have hqr := s3.inR q hq
    exact lessB_asymm (lessB_of_le_lt hqr.1 (hqr.2 z hz))
   have hylo2 : A = [] → y.key = lo := fun hAe => by
    have h0 : i = 0 := by
     have := congrArg List.length hA
     rw [hAe, List.length_take] at this
     simp at this hil
     omega
    rw [hxy.2.2 h0]; exact h5
   rw [hxy.1] at g5
   obtain ⟨lo', hi', ps', ids', t1, t2, t3, t4, t4', t5, t6⟩ := ups_lawG hF0 s3 ⟨hylo, hyhi⟩ g5
   refine ⟨lo', hi', ps', ids', t1, t2, fun _ => t3 s4, fun z hz => ?_, fun q hq => List.mem_append_right _ (List.mem_append_left _ (t4' q hq)), fun u => (hgp u).trans (t5 u), fun M1 kids0 new0 gone a s0 hg hk hm hl => ?_⟩
   ·rw [h7]
    exact List.mem_cons_of_mem _ (List.mem_append_right _ (List.mem_append_left _ (t4 z hz)))
   ·obtain ⟨u1, u2, _⟩ := t6 M1 kids0 new0 gone a s0 hg hk hm hl
    -- what comes at this branch
    have here : ∀ M2 kids1 new, UpsG M1 kids0 P'.reverse M2 kids1 new → KidsG kids1 ∧ Grow M M2 (new0 ++ new) ∧ ∃ R idf, allC (headKey [] (c :: L)) i x kids1 = headKey [] R ∧ (∀ c' L2, R = c' :: L2 → c'.key = lo) ∧ Seg (Sub M2 1 k) R hi (p1 ++ (F p2 ++ p3)) idf ∧ (R ≠ [] → FitP (headKey [] R)) ∧ (idf ++ gone ++ P'.reverse.map (·.1)).Perm (j1 ++ (j2 ++ j3) ++ new0 ++ new) ∧ MeasG M M2 k y.page kids1 a s0 ∧ vsz (allC (headKey [] (c :: L)) i x kids1) ≤ vsz (headKey [] (c :: L)) + 51 * (kids1.length - 1) ∧ ∀ (f : List Item → Nat) (g : List Child → Nat) l, l ≤ k → measL f g M2 k R l + meas f g M k y.page l = meas f g M (k + 1) id l + measL f g M2 k kids1 l := by
     intro M2 kids1 new hu
     obtain ⟨v1, v2, idk, v3, v4, v5⟩ := u2 M2 kids1 new hu
     have a1 := seg_same s1 v1
     have a3 := seg_same s5 v1
     -- the whole row
     have hseg0 : Seg (Sub M2 1 k) (A ++ (headKey y.key kids1 ++ B)) hi (p1 ++ (F p2 ++ p3)) (j1 ++ (idk ++ j3)) := by
      refine Seg.append.2 ⟨p1, _, j1, _, rfl, rfl, ?_, Seg.append.2 ⟨_, p3, _, j3, rfl, rfl, v3, a3⟩⟩
      cases hkk : kids1 with
      | nil =>
       simp only [headKey, List.nil_append]
       exact a1.widen fun z hz => ⟨y.key, rfl, hgap z hz⟩
      | cons a b => exact a1
     have hfirst : ∀ c' L2, A ++ (headKey y.key kids1 ++ B) = c' :: L2 → lessB c'.key lo = false := by
      intro c' L2 hcl
      by_cases hAe : A = []
      ·rw [hAe, List.nil_append] at hcl
       cases hkk : kids1 with
       | nil =>
        rw [hkk] at hcl
        simp only [headKey, List.nil_append] at hcl
        have := hgap c'.key (by rw [hcl]; rfl)
        rw [hylo2 hAe] at this
        exact this
       | cons a b =>
        rw [hkk] at hcl
        simp only [headKey, List.cons_append, List.cons.injEq] at hcl
        rw [← hcl.1]
        show lessB y.key lo = false
        rw [hylo2 hAe, lessB_irrefl]
      ·obtain ⟨a, A', hAA⟩ := List.exists_cons_of_ne_nil hAe
       rw [hAA] at hcl hF
       simp only [List.cons_append, List.cons.injEq] at hcl hF
       rw [← hcl.1, ← hF.1, h5, lessB_irrefl]
     have hseg := hseg0.low hfirst
     have hall : allC (headKey [] (c :: L)) i x kids1 = headKey [] (headKey lo (A ++ (headKey y.key kids1 ++ B))) := by
      rw [headKey_twice]
      unfold allC
      rw [hdr]
      by_cases h0 : i = 0
      ·subst h0
       have hAe : A = [] := by rw [← hA]; rfl
       subst hAe
       simp only [List.take_zero, List.nil_append]
       cases hkk : kids1 with
       | nil => simp only [headKey, List.nil_append]
       | cons a b => rfl
      ·obtain ⟨j, rfl⟩ : ∃ j, i = j + 1 := ⟨i - 1, by omega⟩
       rw [hxy.2.1 h0]
       have e1 : (headKey [] (c :: L)).take (j + 1) = headKey [] A := by rw [← hA]; rfl
       have hAne : A ≠ [] := by rw [← hA]; simp
       rw [e1, List.append_assoc, headKey_app _ (headKey_ne hAne), headKey_twice, ← headKey_app _ hAne]
     have hxk : x.key.length ≤ 40 := (Child.fit_iff.1 (rightC_fit h2 x (List.mem_of_getElem? g4))).2.2
     have hfit : ∀ z ∈ headKey [] (headKey lo (A ++ (headKey y.key kids1 ++ B))), z.fit = true := by
      rw [← hall]
      refine headKey_fit fun z hz => ?_
      rcases List.mem_append.1 hz with hz | hz
      ·rcases List.mem_append.1 hz with hz | hz
       ·exact rightC_fit h2 z (List.mem_of_mem_take hz)
       ·exact headKey_fit' hxk v2.fit z hz
      ·exact rightC_fit h2 z (List.mem_of_mem_drop hz)
     have hlen : (layC (headKey [] (headKey lo (A ++ (headKey y.key kids1 ++ B))))).length ≤ 400 := by
      rw [← hall]
      refine Nat.le_trans (headKey_lay' _) ?_
      rw [layC_append, layC_append, List.length_append, List.length_append]
      have q1 := layC_le (headKey [] (c :: L)) (i + 1)
      have hil' : i < (headKey [] (c :: L)).length := by simpa [headKey] using hil
      rw [layC_take hil', List.length_append] at q1
      have q2 := layC_drop (headKey [] (c :: L)) (i + 1)
      rw [layC_take hil', List.length_append] at q2
      have q3 := layC_le51 (L := headKey x.key kids1) fun z hz => (Child.lay_fit (headKey_fit' hxk v2.fit z hz)).1
      rw [headKey_len] at q3
      have q4 := v2.two
      omega
     refine ⟨v2, v1, _, _, hall, fun c' L2 hR => ?_, hseg, fun hne => FitP.of (hseg.right hne hfit) hlen, ?_, v5, ?_, ?_⟩
     ·cases hq : A ++ (headKey y.key kids1 ++ B) with
      | nil => rw [hq] at hR; simp [headKey] at hR
      | cons a b =>
       rw [hq] at hR
       simp only [headKey, List.cons.injEq] at hR
       rw [← hR.1]
     ·rw [List.perm_iff_count] at v4 ⊢
      intro a
      have := v4 a
      simp only [List.count_append] at this ⊢
      omega
     ·exact allC_vsz g4 (rightC_fit h2) v2.fit
     ·intro f g l hl
      rw [(meas_up (f := f) (g := g) (k := k) h1 h2 h3).2 l hl, measL_head, measL_head, measL_app, measL_app, measL_head, hF, measL_app, seg_meas s1 (v1.sameOn (seg_there s1)), seg_meas s5 (v1.sameOn (seg_there s5))]
      show _ = measL f g M k A l + (meas f g M k y.page l + measL f g M k B l) + _
      omega
    refine ⟨?_, ?_, ?_⟩
    ·intro pre s post M2 kids1 new hG hu
     rw [List.reverse_cons] at hG
     rcases List.eq_nil_or_concat post with rfl | ⟨post', e', rfl⟩
     ·obtain ⟨e1, e2⟩ := List.append_inj' hG rfl
      subst e1
      simp only [List.cons.injEq, and_true] at e2
      subst e2
      intro c0 hc0
      dsimp only at hc0 ⊢
      rw [g4] at hc0
      cases hc0
      obtain ⟨w1, w2, R, idf, w3, w4, w5, w6, w8, _, _, _⟩ := here M2 kids1 new hu
      refine ⟨w1, fun hne => ?_⟩
      rw [w3] at hne ⊢
      exact w6 fun e => hne (by rw [e]; rfl)
     ·rw [List.concat_eq_append, ← List.cons_append, ← List.append_assoc] at hG
      obtain ⟨e1, e2⟩ := List.append_inj' hG rfl
      exact u1 pre s post' M2 kids1 new e1 hu
    ·intro M2 kids2 new hu
     rw [List.reverse_cons] at hu
     obtain ⟨M1', kids1, new1, new2, c0, w1, w2, w3, rfl⟩ := hu.last
     rw [g4] at w2
     cases w2
     obtain ⟨z1, z2, R, idf, z3, z4, z5, z6, z8, ⟨s, b1, b2, b3, b4, b5⟩, z10, z11⟩ := here M1' kids1 new1 w1
     rw [z3] at w3 z10
     rw [hins]
     have htop := fun (f : List Item → Nat) (g : List Child → Nat) => (meas_up (f := f) (g := g) (k := k) h1 h2 h3).1
     rcases w3 with ⟨e1, rfl, rfl, rfl⟩ | ⟨e1, w3⟩
     ·have hR : R = [] := by
       cases R with
       | nil => rfl
       | cons a b => simp [headKey] at e1
      subst hR
      obtain ⟨hp0, rfl⟩ := z5
      refine ⟨by simpa using z2, ⟨by simp, fun x hx => by cases hx⟩, [], ?_, ?_, ?_⟩
      ·rw [hp0]; exact ⟨rfl, rfl⟩
      ·rw [h7, List.reverse_cons, List.map_append]
       rw [List.perm_iff_count] at z8 ⊢
       intro a
       have q2 := z8 a
       simp only [List.count_append, List.count_cons, List.count_nil, List.map_cons, List.map_nil] at q2 ⊢
       omega
      ·have e0 : ∀ (f : List Item → Nat) (g : List Child → Nat) (S : Store) j l, measL f g S j [] l = 0 := fun _ _ _ _ _ => rfl
       refine ⟨fun l => if l = k + 1 then 0 else s l, by simp [b1], by simp, ?_, fun l hl => ?_, fun l hl => ?_⟩
       ·have := z11 potI potB 0 (by omega)
        rw [e0] at this ⊢
        omega
       ·rw [e0]
        dsimp only
        by_cases hlk : l = k
        ·subst hlk; simp
        ·rw [if_neg (by omega), if_neg (by omega)]
         have q1 := z11 potI potB (l + 1) (by omega)
         have q2 := b4 l (by omega)
         rw [e0] at q1
         omega
       ·rw [e0]; omega
     ·obtain ⟨c', L2, hR⟩ : ∃ c' L2, R = c' :: L2 := by
       cases R with
       | nil => exact absurd rfl e1
       | cons a b => exact ⟨a, b, rfl⟩
      subst hR
      obtain ⟨y1, y2, idk, y3, y4⟩ := Laid.tree (by omega) (z4 _ _ rfl) z5 (by omega) (z6 (by simp)) w3
      obtain ⟨σ, m0, m1, m2, m3, m4⟩ := laid_meas rfl e1 z5 (z6 (by simp)) w3
      refine ⟨by rw [← List.append_assoc]; exact z2.trans y1, y2.g, idk, y3, ?_, fun l => if l = k + 1 then σ else s l, by simp [b1], by simp [m1], ?_, fun l hl => ?_, fun l hl => ?_⟩
      ·rw [h7, List.reverse_cons, List.map_append]
       rw [List.perm_iff_count] at y4 z8 ⊢
       intro a
       have q1 := y4 a
       have q2 := z8 a
       simp only [List.count_append, List.count_cons, List.count_nil, List.map_cons, List.map_nil] at q1 q2 ⊢
       omega
      ·have q1 := z11 potI potB 0 (by omega)
       rw [m4 _ _ 0 (by omega)]
       omega
      ·dsimp only
       by_cases hlk : l = k
       ·subst hlk
        rw [if_pos rfl, if_neg (by omega), htop]
        have e2 : potB (headKey [] (c' :: L2)) ≤ potB (headKey [] (c :: L)) + 51 * s l := by
         unfold potB
         have : kids1.length - 1 ≤ s l := by omega
         have := Nat.mul_le_mul_left 51 this
         omega
        omega
       ·rw [if_neg (by omega), if_neg (by omega), m4 _ _ (l + 1) (by omega)]
        have q1 := z11 potI potB (l + 1) (by omega)
        have q2 := b4 l (by omega)
        omega
      ·dsimp only
       by_cases hlk : l = k + 1
       ·subst hlk
        rw [if_pos rfl, htop, m3]
        omega
       ·rw [if_neg hlk, m4 _ _ l (by omega)]
        have q1 := z11 (fun _ => 1) (fun _ => 1) l (by omega)
        have q2 := b5 l (by omega)
        omega
    ·intro pre s M2 kids1 new c0 hG hu hc0
     rw [List.reverse_cons] at hG
     obtain ⟨e1, e2⟩ := List.append_inj' hG rfl
     subst e1
     simp only [List.cons.injEq, and_true] at e2
     subst e2
     dsimp only at hc0 ⊢
     rw [g4] at hc0
     cases hc0
     obtain ⟨z1, z2, R, idf, z3, z4, z5, z6, z8, ⟨s, b1, b2, b3, b4, b5⟩, z10, z11⟩ := here M2 kids1 new hu
     refine ⟨rfl, z2, k, R, idf, rfl, z3, z4, by rw [hins]; exact z5, ?_, s, b1, ?_, fun l hl => ?_, fun l hl => ?_⟩
     ·rw [h7]
      rw [List.perm_iff_count] at z8 ⊢
      intro a
      have q2 := z8 a
      simp only [List.count_append, List.count_cons, List.count_nil] at q2 ⊢
      omega
     ·have q1 := z11 potI potB 0 (by omega)
      omega
     ·have q1 := z11 potI potB (l + 1) (by omega)
      have q2 := b4 l (by omega)
      omega
     ·have q1 := z11 (fun _ => 1) (fun _ => 1) l (by omega)
      have q2 := b5 l (by omega)
      omega
end Go.Ev
