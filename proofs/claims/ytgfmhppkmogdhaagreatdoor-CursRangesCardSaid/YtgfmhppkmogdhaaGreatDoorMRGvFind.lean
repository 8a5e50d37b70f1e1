/-
  Where a key stands among items, and below which child; items with one more, or one less; the best part in two.
-/
import Derived.Test.YtgfmhppkmogdhaaGreatDoorMRGvTree
set_option linter.unusedVariables false
set_option linter.unusedSimpArgs false
namespace Go.Ev

/-- How many stand ahead of a key. -/
def ahead (k : Bytes) : List Item → Nat
  | [] => 0
  | x :: l => if lessB x.key k then ahead k l + 1 else 0
def isAt (k : Bytes) : List Item → Bool
  | [] => false
  | x :: l => if lessB x.key k then isAt k l else x.key == k

theorem ahead_le (k : Bytes) : ∀ l : List Item, ahead k l ≤ l.length
  | [] => Nat.le_refl _
  | x :: l => by
    have := ahead_le k l
    simp only [ahead, List.length_cons]
    split <;> omega

theorem riseI_tail : ∀ {x : Item} {l : List Item}, riseI (x :: l) = true → riseI l = true ∧ ∀ y ∈ l, lessB x.key y.key = true
  | x, [], _ => ⟨rfl, fun y hy => by cases hy⟩
  | x, y :: l, h => by
    simp only [riseI, Bool.and_eq_true] at h
    obtain ⟨h1, h2⟩ := riseI_tail h.2
    refine ⟨h.2, fun z hz => ?_⟩
    rcases List.mem_cons.1 hz with rfl | hz
    · exact h.1.2
    · exact lessB_trans h.1.2 (h2 z hz)

theorem riseI_cons {x : Item} {l : List Item} (hx : x.right = true) (hl : riseI l = true) (h : ∀ y ∈ l, lessB x.key y.key = true) : riseI (x :: l) = true := by
  cases l with
  | nil => exact hx
  | cons y l => simp only [riseI, Bool.and_eq_true]; exact ⟨⟨hx, h y (List.mem_cons_self ..)⟩, hl⟩

theorem riseI_append : ∀ {a b : List Item}, riseI (a ++ b) = true ↔ riseI a = true ∧ riseI b = true ∧ ∀ x ∈ a, ∀ y ∈ b, lessB x.key y.key = true
  | [], b => by simp [riseI]
  | x :: a, b => by
    constructor
    · intro h
      have h' : riseI (x :: (a ++ b)) = true := h
      obtain ⟨h1, h2⟩ := riseI_tail h'
      obtain ⟨h3, h4, h5⟩ := riseI_append.1 h1
      have hx := riseI_right h' x (List.mem_cons_self ..)
      refine ⟨riseI_cons hx h3 fun y hy => h2 y (List.mem_append_left _ hy), h4, fun z hz y hy => ?_⟩
      rcases List.mem_cons.1 hz with rfl | hz
      · exact h2 y (List.mem_append_right _ hy)
      · exact h5 z hz y hy
    · rintro ⟨h1, h2, h3⟩
      obtain ⟨h4, h5⟩ := riseI_tail h1
      have hx := riseI_right h1 x (List.mem_cons_self ..)
      refine riseI_cons hx (riseI_append.2 ⟨h4, h2, fun z hz => h3 z (List.mem_cons_of_mem _ hz)⟩) fun y hy => ?_
      rcases List.mem_append.1 hy with hy | hy
      · exact h5 y hy
      · exact h3 x (List.mem_cons_self ..) y hy

/-- What stands ahead is below the key; what is behind it is not. -/
theorem ahead_lt {k : Bytes} : ∀ {l : List Item} {i : Nat}, i < ahead k l → ∃ x, l[i]? = some x ∧ lessB x.key k = true
  | [], _, h => by simp [ahead] at h
  | x :: l, i, h => by
    simp only [ahead] at h
    split at h
    · rename_i hx
      cases i with
      | zero => exact ⟨x, rfl, hx⟩
      | succ i => exact ahead_lt (l := l) (by omega)
    · omega
theorem ahead_ge {k : Bytes} : ∀ {l : List Item} {i : Nat} {x : Item}, riseI l = true → ahead k l ≤ i → l[i]? = some x → lessB x.key k = false
  | [], _, _, _, _, hx => by simp at hx
  | y :: l, i, x, hr, h, hx => by
    obtain ⟨h1, h2⟩ := riseI_tail hr
    simp only [ahead] at h
    split at h
    · cases i with
      | zero => omega
      | succ i => exact ahead_ge h1 (by omega) hx
    · rename_i hy
      cases i with
      | zero => cases hx; simpa using hy
      | succ i =>
        have hm : x ∈ l := List.mem_of_getElem? hx
        cases hc : lessB x.key k
        · rfl
        · exact absurd (lessB_trans (h2 x hm) hc) hy

theorem isAt_iff {k : Bytes} : ∀ {l : List Item}, isAt k l = true ↔ ∃ x, l[ahead k l]? = some x ∧ x.key = k
  | [] => by simp [isAt]
  | x :: l => by
    simp only [isAt, ahead]
    split
    · rw [isAt_iff]
      simp
    · simp

/-- Items with one more, or another one of its key. -/
def setI (l : List Item) (x : Item) : List Item :=
  l.take (ahead x.key l) ++ x :: l.drop (if isAt x.key l then ahead x.key l + 1 else ahead x.key l)
def delI (l : List Item) (k : Bytes) : List Item :=
  if isAt k l then l.take (ahead k l) ++ l.drop (ahead k l + 1) else l

theorem setI_nil (x : Item) : setI [] x = [x] := rfl
theorem setI_cons (y : Item) (l : List Item) (x : Item) : setI (y :: l) x = if lessB y.key x.key then y :: setI l x else if y.key = x.key then x :: l else x :: y :: l := by
  unfold setI
  simp only [ahead, isAt]
  split
  · simp only [List.take_succ_cons, List.cons_append]
    split <;> simp
  · split
    · rename_i h1 h2
      have : y.key = x.key := by simpa using h2
      simp [this]
    · rename_i h1 h2
      have : ¬ y.key = x.key := by simpa using h2
      simp [this]

theorem setI_mem {l : List Item} {x z : Item} (h : z ∈ setI l x) : z = x ∨ z ∈ l := by
  unfold setI at h
  rcases List.mem_append.1 h with h | h
  · exact .inr (List.mem_of_mem_take h)
  · rcases List.mem_cons.1 h with h | h
    · exact .inl h
    · exact .inr (List.mem_of_mem_drop h)

theorem setI_rise : ∀ {l : List Item} {x : Item}, riseI l = true → x.right = true → riseI (setI l x) = true
  | [], x, _, hx => hx
  | y :: l, x, hl, hx => by
    obtain ⟨h1, h2⟩ := riseI_tail hl
    have hy := riseI_right hl y (List.mem_cons_self ..)
    rw [setI_cons]
    split
    · rename_i hlt
      refine riseI_cons hy (setI_rise h1 hx) fun z hz => ?_
      rcases setI_mem hz with rfl | hz
      · exact hlt
      · exact h2 z hz
    · rename_i hn
      split
      · rename_i he
        exact riseI_cons hx h1 fun z hz => by rw [← he]; exact h2 z hz
      · rename_i he
        have hgt : lessB x.key y.key = true := by
          rcases lessB_total y.key x.key with h | h | h
          · exact absurd h hn
          · exact absurd h he
          · exact h
        refine riseI_cons hx hl fun z hz => ?_
        rcases List.mem_cons.1 hz with rfl | hz
        · exact hgt
        · exact lessB_trans hgt (h2 z hz)

theorem delI_rise {l : List Item} {k : Bytes} (h : riseI l = true) : riseI (delI l k) = true := by
  unfold delI
  split
  · have hs : riseI (l.take (ahead k l) ++ l.drop (ahead k l)) = true := by rw [List.take_append_drop]; exact h
    obtain ⟨h1, h2, h3⟩ := riseI_append.1 hs
    refine riseI_append.2 ⟨h1, ?_, fun x hx y hy => h3 x hx y ?_⟩
    · rw [← List.drop_drop]
      cases hd : l.drop (ahead k l) with
      | nil => rfl
      | cons z m => rw [hd] at h2; exact (riseI_tail h2).1
    · rw [← List.drop_drop] at hy
      exact List.mem_of_mem_drop hy
  · exact h

/-- Below which child a key stands. -/
def below (k : Bytes) : List Child → Nat
  | [] => 0
  | c :: l => if lessB k c.key then 0 else below k l + 1
def findC (k : Bytes) (l : List Child) : Nat := below k l.tail

theorem below_le (k : Bytes) : ∀ l : List Child, below k l ≤ l.length
  | [] => Nat.le_refl _
  | x :: l => by
    have := below_le k l
    simp only [below, List.length_cons]
    split <;> omega

theorem riseC_tail : ∀ {k : Bytes} {l : List Child}, riseC k l = true → ∀ y ∈ l, lessB k y.key = true
  | _, [], _, y, hy => by cases hy
  | k, x :: l, h, y, hy => by
    simp only [riseC, Bool.and_eq_true] at h
    rcases List.mem_cons.1 hy with rfl | hy
    · exact h.1.2
    · exact lessB_trans h.1.2 (riseC_tail h.2 y hy)

theorem below_lt {k : Bytes} : ∀ {l : List Child} {i : Nat}, i < below k l → ∃ x, l[i]? = some x ∧ lessB k x.key = false
  | [], _, h => by simp [below] at h
  | x :: l, i, h => by
    simp only [below] at h
    split at h
    · omega
    · rename_i hx
      cases i with
      | zero => exact ⟨x, rfl, by simpa using hx⟩
      | succ i => exact below_lt (l := l) (by omega)
theorem below_ge {k k0 : Bytes} : ∀ {l : List Child} {i : Nat} {x : Child}, riseC k0 l = true → below k l ≤ i → l[i]? = some x → lessB k x.key = true
  | [], _, _, _, _, hx => by simp at hx
  | y :: l, i, x, hr, h, hx => by
    simp only [riseC, Bool.and_eq_true] at hr
    simp only [below] at h
    split at h
    · rename_i hy
      cases i with
      | zero => cases hx; exact hy
      | succ i => exact lessB_trans hy (riseC_tail hr.2 x (List.mem_of_getElem? hx))
    · cases i with
      | zero => omega
      | succ i => exact below_ge hr.2 (by omega) hx

-- the best part in two

/-- The first place from i on, short of n, whose cost is least; 'best' is the best so far. -/
def bestFrom (cost : Nat → Nat) : Nat → Nat → Nat → Nat
  | 0, _, best => best
  | n + 1, i, best => bestFrom cost n (i + 1) (if best = 0 ∨ cost i < cost best then i else best)

def bestAt (cost : Nat → Nat) (n : Nat) : Nat := bestFrom cost (n - 1) 1 0

theorem bestFrom_spec (cost : Nat → Nat) : ∀ (n i best : Nat), best < i → 1 ≤ i → (best = 0 → i = 1) → (∀ j, 1 ≤ j → j < i → cost best ≤ cost j) → (1 ≤ n ∨ 1 ≤ best) →
    1 ≤ bestFrom cost n i best ∧ bestFrom cost n i best < i + n ∧ ∀ j, 1 ≤ j → j < i + n → cost (bestFrom cost n i best) ≤ cost j
  | 0, i, best, h1, h2, h3, h4, h5 => by
    simp only [bestFrom]
    exact ⟨by omega, by omega, fun j hj1 hj2 => h4 j hj1 (by omega)⟩
  | n + 1, i, best, h1, h2, h3, h4, h5 => by
    simp only [bestFrom]
    by_cases hc : best = 0 ∨ cost i < cost best
    · rw [if_pos hc]
      have := bestFrom_spec cost n (i + 1) i (by omega) (by omega) (by omega) (fun j hj1 hj2 => by
        by_cases hj : j = i
        · subst hj; exact Nat.le_refl _
        · rcases hc with hc | hc
          · have := h3 hc; omega
          · have := h4 j hj1 (by omega); omega) (.inr (by omega))
      refine ⟨this.1, by omega, fun j hj1 hj2 => this.2.2 j hj1 (by omega)⟩
    · rw [if_neg hc]
      have hb : best ≠ 0 := fun h => hc (.inl h)
      have hle : cost best ≤ cost i := Nat.le_of_not_lt fun h => hc (.inr h)
      have := bestFrom_spec cost n (i + 1) best (by omega) (by omega) (fun h => absurd h hb) (fun j hj1 hj2 => by
        by_cases hj : j = i
        · subst hj; exact hle
        · exact h4 j hj1 (by omega)) (.inr (by omega))
      refine ⟨this.1, by omega, fun j hj1 hj2 => this.2.2 j hj1 (by omega)⟩

theorem bestAt_spec (cost : Nat → Nat) {n : Nat} (h : 2 ≤ n) : 1 ≤ bestAt cost n ∧ bestAt cost n < n ∧ ∀ j, 1 ≤ j → j < n → cost (bestAt cost n) ≤ cost j := by
  have := bestFrom_spec cost (n - 1) 1 0 (by omega) (by omega) (by omega) (fun j h1 h2 => by omega) (.inl (by omega))
  unfold bestAt
  refine ⟨this.1, by omega, fun j h1 h2 => this.2.2 j h1 (by omega)⟩

def costI (l : List Item) (i : Nat) : Nat := max (layI (l.take i)).length (layI (l.drop i)).length
def costC (l : List Child) (i : Nat) : Nat := max (layC (l.take i)).length (layC (l.drop i)).length
def splitI (l : List Item) : List Item × List Item := if l.length < 2 then (l, []) else (l.take (bestAt (costI l) l.length), l.drop (bestAt (costI l) l.length))
def splitC (l : List Child) : List Child × List Child := if l.length < 2 then (l, []) else (l.take (bestAt (costC l) l.length), l.drop (bestAt (costC l) l.length))

theorem layI_append : ∀ a b : List Item, layI (a ++ b) = layI a ++ layI b
  | [], _ => rfl
  | x :: a, b => by simp [layI, layI_append a b]
theorem layC_append : ∀ a b : List Child, layC (a ++ b) = layC a ++ layC b
  | [], _ => rfl
  | x :: a, b => by simp [layC, layC_append a b]
end Go.Ev
