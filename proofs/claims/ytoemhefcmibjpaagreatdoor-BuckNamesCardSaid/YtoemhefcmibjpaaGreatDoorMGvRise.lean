/-
  Items that rise, one by one.
-/
import Derived.Test.YtoemhefcmibjpaaGreatDoorMGvFind
set_option linter.unusedVariables false
set_option linter.unusedSimpArgs false
namespace Go.Ev
theorem riseI_take {l : List Item} (h : riseI l = true) (k : Nat) : riseI (l.take k) = true := by
 have : riseI (l.take k ++ l.drop k) = true := by rw [List.take_append_drop]; exact h
 exact (riseI_append.1 this).1
def stepI (l : List Item) (k : Nat) (hk : k < l.length) : Bool := l[k].right && (decide (k = 0) || lessB (l[k - 1]'(by omega)).key l[k].key)
theorem riseI_max : ∀ {l : List Item} {k : Nat} (hk : k < l.length), riseI l = true → ∀ y ∈ l.take k, lessB y.key l[k].key = true := by
 intro l k hk h y hy
 have hs : riseI (l.take k ++ l.drop k) = true := by rw [List.take_append_drop]; exact h
 obtain ⟨_, _, h3⟩ := riseI_append.1 hs
 exact h3 y hy l[k] (by rw [List.drop_eq_getElem_cons hk]; exact List.mem_cons_self ..)
theorem riseI_step {l : List Item} {k : Nat} (hk : k < l.length) (h : riseI (l.take k) = true) : riseI (l.take (k + 1)) = stepI l k hk := by
 rw [List.take_succ_eq_append_getElem hk, Bool.eq_iff_iff]
 unfold stepI
 simp only [Bool.and_eq_true, Bool.or_eq_true, decide_eq_true_eq]
 constructor
 ·intro hr
  obtain ⟨_, h2, h3⟩ := riseI_append.1 hr
  refine ⟨h2, ?_⟩
  by_cases h0 : k = 0
  ·exact .inl h0
  ·refine .inr (h3 _ ?_ _ (List.mem_singleton.2 rfl))
   rw [List.mem_take_iff_getElem]
   exact ⟨k - 1, by omega, rfl⟩
 ·rintro ⟨h1, h2⟩
  refine riseI_append.2 ⟨h, h1, fun y hy z hz => ?_⟩
  rw [List.mem_singleton.1 hz]
  rcases h2 with rfl | h2
  ·simp at hy
  ·have hk1 : k - 1 < (l.take k).length ∨ k = 0 := by
    by_cases h0 : k = 0
    ·exact .inr h0
    ·left; rw [List.length_take]; omega
   rcases hk1 with hk1 | rfl
   ·obtain ⟨j, hj, rfl⟩ := List.mem_take_iff_getElem.1 hy
    by_cases he : j = k - 1
    ·subst he; exact h2
    ·have hm := riseI_max hk1 h l[j] (by
      rw [List.mem_take_iff_getElem]
      exact ⟨j, by rw [List.length_take]; omega, by simp⟩)
     have e : (l.take k)[k - 1] = l[k - 1] := by simp
     rw [e] at hm
     exact lessB_trans hm h2
   ·simp at hy
theorem riseI_fail {l : List Item} {k : Nat} (hk : k < l.length) (h : riseI (l.take k) = true) (hs : stepI l k hk = false) : riseI l = false := by
 cases hr : riseI l
 ·rfl
 ·have := riseI_take hr (k + 1)
  rw [riseI_step hk h, hs] at this
  cases this
end Go.Ev
