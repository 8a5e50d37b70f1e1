/-
  Items of a leaf and children of a branch, as plain data: what they are laid as, how it is read, which are right.
-/
import Derived.Test.YtgfmhppkmogdhaaGreatDoorMOGvNum
import Derived.Test.YtgfmhppkmogdhaaGreatDoorMOGvOrd
set_option linter.unusedVariables false
set_option linter.unusedSimpArgs false
namespace Go.Ev
open Go.Lib

structure Item where
  key : Bytes
  val : Bytes
  over : Int
  size : Int
deriving DecidableEq, Inhabited

structure Child where
  key : Bytes
  page : Int
deriving DecidableEq, Inhabited

def inB (n least most : Int) : Bool := decide (least ≤ n) && decide (n ≤ most)

def Item.right (x : Item) : Bool :=
  inB x.key.length 1 40 &&
  if x.over = 0 then decide (x.size = 0) && decide (x.val.length ≤ 60)
  else inB x.over 1 4294967295 && inB x.size 61 2000 && x.val.isEmpty

def Item.lay (x : Item) : Bytes := textB x.key ++ boolB (x.over != 0) ++ if x.over ≠ 0 then varB x.over ++ varB x.size else textB x.val
def layI : List Item → Bytes
  | [] => []
  | x :: l => x.lay ++ layI l

/-- Items that are right, and whose keys rise. -/
def riseI : List Item → Bool
  | [] => true
  | [x] => x.right
  | x :: y :: l => x.right && lessB x.key y.key && riseI (y :: l)

def putI (l : List Item) : Bytes × Int :=
  if riseI l = false then ([], 1) else if 240 < (layI l).length then ([], 2) else (layI l, 0)

def Rd.item (r : Rd) : Item × Rd :=
  let k := r.text 40
  let o := k.2.bool
  if o.1 then ({ key := k.1, val := [], over := o.2.var.1, size := o.2.var.2.var.1 }, o.2.var.2.var.2)
  else ({ key := k.1, val := (o.2.text 60).1, over := 0, size := 0 }, (o.2.text 60).2)

theorem Rd.item_le (r : Rd) : r.item.2.b.length ≤ r.b.length := by
  unfold Rd.item
  have h1 := r.text_le 40
  have h2 := (r.text 40).2.bool_le
  dsimp only
  split
  · have h3 := (r.text 40).2.bool.2.var_le
    have h4 := (r.text 40).2.bool.2.var.2.var_le
    dsimp only
    omega
  · have h3 := (r.text 40).2.bool.2.text_le 60
    dsimp only
    omega

theorem Rd.item_short {r : Rd} (h : r.item.2.e = 0) : r.item.2.b.length < r.b.length := by
  have hk : (r.text 40).2.e = 0 := by
    by_cases h0 : (r.text 40).2.e = 0
    · exact h0
    · exfalso
      unfold Rd.item at h
      dsimp only at h
      rw [Rd.bool_off h0] at h
      simp only [Bool.false_eq_true, if_false] at h
      rw [Rd.text_off h0] at h
      exact h0 h
  have h1 := Rd.text_short hk
  have h2 := (r.text 40).2.bool_le
  unfold Rd.item
  dsimp only
  split
  · have h3 := (r.text 40).2.bool.2.var_le
    have h4 := (r.text 40).2.bool.2.var.2.var_le
    dsimp only
    omega
  · have h3 := (r.text 40).2.bool.2.text_le 60
    dsimp only
    omega

/-- Items are read to the end, or to the first error. -/
def Rd.items (r : Rd) : List Item × Rd :=
  if h : r.e = 0 ∧ r.b ≠ [] then
    if h2 : r.item.2.e = 0 then
      (r.item.1 :: (Rd.items r.item.2).1, (Rd.items r.item.2).2)
    else ([r.item.1], r.item.2)
  else ([], r)
termination_by r.b.length
decreasing_by all_goals exact Rd.item_short h2

def getI (b : Bytes) : List Item × Int :=
  let p := Rd.items ⟨b, 0⟩
  let q := putI p.1
  if p.2.e ≠ 0 ∨ q.2 ≠ 0 ∨ q.1 ≠ b then ([], 4) else (p.1, 0)

theorem Item.right_key {x : Item} (h : x.right = true) : 1 ≤ x.key.length ∧ x.key.length ≤ 40 := by
  unfold Item.right inB at h
  simp at h
  omega

theorem Rd.item_lay (x : Item) (h : x.right = true) (t : Bytes) : Rd.item ⟨x.lay ++ t, 0⟩ = (x, ⟨t, 0⟩) := by
  have hk := Item.right_key h
  unfold Rd.item Item.lay
  rw [List.append_assoc, List.append_assoc, Rd.text_text _ _ (by omega) (by omega)]
  dsimp only
  rw [Rd.bool_bool]
  dsimp only
  unfold Item.right inB at h
  by_cases ho : x.over = 0
  · rw [if_pos ho] at h
    simp only [Bool.and_eq_true, decide_eq_true_eq] at h
    obtain ⟨_, h1, h2⟩ := h
    simp only [ho, bne_self_eq_false, Bool.false_eq_true, if_false, ne_eq, not_true_eq_false]
    rw [Rd.text_text _ _ (by omega) (by omega)]
    obtain ⟨a, b, c, d⟩ := x
    simp only at ho h1
    subst ho h1
    rfl
  · rw [if_neg ho] at h
    simp only [Bool.and_eq_true, decide_eq_true_eq] at h
    obtain ⟨_, ⟨h1, h2⟩, h3⟩ := h
    have e : (x.over != 0) = true := by simpa using ho
    rw [e]
    simp only [if_true, ne_eq, ho, not_false_eq_true]
    rw [List.append_assoc, Rd.var_var _ ⟨by omega, by omega⟩]
    dsimp only
    rw [Rd.var_var _ ⟨by omega, by omega⟩]
    obtain ⟨a, b, c, d⟩ := x
    simp only [List.isEmpty_iff] at h3
    subst h3
    rfl

theorem Item.lay_ne (x : Item) (t : Bytes) : x.lay ++ t ≠ [] := by
  intro h
  have h2 := uvarint_pos (zigzag (x.key.length : Int))
  have h3 : 1 ≤ (x.lay ++ t).length := by
    simp only [Item.lay, textB, varB, List.length_append]
    omega
  rw [h] at h3
  simp at h3

theorem riseI_right : ∀ {l : List Item}, riseI l = true → ∀ x ∈ l, x.right = true
  | [], _, x, hx => by cases hx
  | [y], h, x, hx => by rw [List.mem_singleton.1 hx]; exact h
  | y :: z :: l, h, x, hx => by
    simp only [riseI, Bool.and_eq_true] at h
    rcases List.mem_cons.1 hx with rfl | hx
    · exact h.1.1
    · exact riseI_right h.2 x hx

theorem Rd.items_lay : ∀ (l : List Item), (∀ x ∈ l, x.right = true) → Rd.items ⟨layI l, 0⟩ = (l, ⟨[], 0⟩)
  | [], _ => by unfold Rd.items; rw [dif_neg (by simp [layI])]; rfl
  | x :: l, h => by
    have hx := h x (List.mem_cons_self ..)
    unfold Rd.items
    have e : Rd.item ⟨layI (x :: l), 0⟩ = (x, ⟨layI l, 0⟩) := Rd.item_lay x hx _
    rw [dif_pos ⟨rfl, Item.lay_ne x _⟩]
    simp only [e]
    rw [dif_pos trivial, Rd.items_lay l fun y hy => h y (List.mem_cons_of_mem _ hy)]

/-- What was laid is read as it was. -/
theorem getI_put {l : List Item} (h : riseI l = true) (hs : (layI l).length ≤ 240) : getI (layI l) = (l, 0) := by
  unfold getI
  rw [Rd.items_lay l (riseI_right h)]
  have : putI l = (layI l, 0) := by unfold putI; rw [if_neg (by simp [h]), if_neg (by omega)]
  simp [this]

/-- What is read is right. -/
theorem getI_right {b : Bytes} (h : (getI b).2 = 0) : riseI (getI b).1 = true ∧ layI (getI b).1 = b ∧ b.length ≤ 240 := by
  unfold getI at h ⊢
  dsimp only at h ⊢
  split at h
  · simp at h
  · rename_i hn
    rw [if_neg hn]
    simp only [not_or, Decidable.not_not, ne_eq] at hn
    obtain ⟨_, h2, h3⟩ := hn
    unfold putI at h2 h3
    split at h2
    · simp at h2
    · split at h2
      · simp at h2
      · rename_i k1 k2
        rw [if_neg k1, if_neg k2] at h3
        exact ⟨by simpa using k1, h3, by rw [← h3]; exact Nat.le_of_not_lt k2⟩

theorem getI_err (b : Bytes) : (getI b).2 = 0 ∨ getI b = ([], 4) := by
  unfold getI
  dsimp only
  split
  · exact .inr rfl
  · exact .inl rfl

-- children

def Child.lay (x : Child) : Bytes := textB x.key ++ varB x.page
def layC : List Child → Bytes
  | [] => []
  | x :: l => x.lay ++ layC l

def Child.fit (x : Child) : Bool := decide (2 ≤ x.page) && decide (x.page ≤ 4294967295) && decide (x.key.length ≤ 40)
/-- Children behind one whose key is at hand. -/
def riseC (k : Bytes) : List Child → Bool
  | [] => true
  | x :: l => x.fit && lessB k x.key && riseC x.key l
def rightC : List Child → Bool
  | [] => false
  | x :: l => x.fit && x.key.isEmpty && riseC x.key l

def putC (l : List Child) : Bytes × Int :=
  if rightC l = false then ([], 1) else if 240 < (layC l).length then ([], 2) else (layC l, 0)

def Rd.child (r : Rd) : Child × Rd := ({ key := (r.text 40).1, page := (r.text 40).2.var.1 }, (r.text 40).2.var.2)

theorem Rd.child_short {r : Rd} (h : r.child.2.e = 0) : r.child.2.b.length < r.b.length := by
  unfold Rd.child at h ⊢
  have h1 := Rd.var_short h
  have h2 := r.text_le 40
  dsimp only at h1 ⊢
  omega

def Rd.children (r : Rd) : List Child × Rd :=
  if h : r.e = 0 ∧ r.b ≠ [] then
    if h2 : r.child.2.e = 0 then
      (r.child.1 :: (Rd.children r.child.2).1, (Rd.children r.child.2).2)
    else ([r.child.1], r.child.2)
  else ([], r)
termination_by r.b.length
decreasing_by all_goals exact Rd.child_short h2

def getC (b : Bytes) : List Child × Int :=
  let p := Rd.children ⟨b, 0⟩
  let q := putC p.1
  if p.2.e ≠ 0 ∨ q.2 ≠ 0 ∨ q.1 ≠ b then ([], 4) else (p.1, 0)

theorem Child.fit_iff {x : Child} : x.fit = true ↔ 2 ≤ x.page ∧ x.page ≤ 4294967295 ∧ x.key.length ≤ 40 := by
  unfold Child.fit
  simp [and_assoc]

theorem Rd.child_lay (x : Child) (h : x.fit = true) (t : Bytes) : Rd.child ⟨x.lay ++ t, 0⟩ = (x, ⟨t, 0⟩) := by
  obtain ⟨h1, h2, h3⟩ := Child.fit_iff.1 h
  unfold Rd.child Child.lay
  rw [List.append_assoc, Rd.text_text _ _ (by omega) (by omega)]
  dsimp only
  rw [Rd.var_var _ ⟨by omega, by omega⟩]

theorem Child.lay_ne (x : Child) (t : Bytes) : x.lay ++ t ≠ [] := by
  intro h
  have h2 := uvarint_pos (zigzag x.page)
  have h3 : 1 ≤ (x.lay ++ t).length := by
    simp only [Child.lay, varB, List.length_append]
    omega
  rw [h] at h3
  simp at h3

theorem riseC_fit : ∀ {l : List Child} {k : Bytes}, riseC k l = true → ∀ x ∈ l, x.fit = true
  | [], _, _, x, hx => by cases hx
  | y :: l, k, h, x, hx => by
    simp only [riseC, Bool.and_eq_true] at h
    rcases List.mem_cons.1 hx with rfl | hx
    · exact h.1.1
    · exact riseC_fit h.2 x hx

theorem rightC_fit : ∀ {l : List Child}, rightC l = true → ∀ x ∈ l, x.fit = true
  | [], h, _, _ => by cases h
  | y :: l, h, x, hx => by
    simp only [rightC, Bool.and_eq_true] at h
    rcases List.mem_cons.1 hx with rfl | hx
    · exact h.1.1
    · exact riseC_fit h.2 x hx

theorem Rd.children_lay : ∀ (l : List Child), (∀ x ∈ l, x.fit = true) → Rd.children ⟨layC l, 0⟩ = (l, ⟨[], 0⟩)
  | [], _ => by unfold Rd.children; rw [dif_neg (by simp [layC])]; rfl
  | x :: l, h => by
    have hx := h x (List.mem_cons_self ..)
    unfold Rd.children
    have e : Rd.child ⟨layC (x :: l), 0⟩ = (x, ⟨layC l, 0⟩) := Rd.child_lay x hx _
    rw [dif_pos ⟨rfl, Child.lay_ne x _⟩]
    simp only [e]
    rw [dif_pos trivial, Rd.children_lay l fun y hy => h y (List.mem_cons_of_mem _ hy)]

theorem getC_put {l : List Child} (h : rightC l = true) (hs : (layC l).length ≤ 240) : getC (layC l) = (l, 0) := by
  unfold getC
  rw [Rd.children_lay l (rightC_fit h)]
  have : putC l = (layC l, 0) := by unfold putC; rw [if_neg (by simp [h]), if_neg (by omega)]
  simp [this]

theorem getC_right {b : Bytes} (h : (getC b).2 = 0) : rightC (getC b).1 = true ∧ layC (getC b).1 = b ∧ b.length ≤ 240 := by
  unfold getC at h ⊢
  dsimp only at h ⊢
  split at h
  · simp at h
  · rename_i hn
    rw [if_neg hn]
    simp only [not_or, Decidable.not_not, ne_eq] at hn
    obtain ⟨_, h2, h3⟩ := hn
    unfold putC at h2 h3
    split at h2
    · simp at h2
    · split at h2
      · simp at h2
      · rename_i k1 k2
        rw [if_neg k1, if_neg k2] at h3
        exact ⟨by simpa using k1, h3, by rw [← h3]; exact Nat.le_of_not_lt k2⟩

theorem getC_err (b : Bytes) : (getC b).2 = 0 ∨ getC b = ([], 4) := by
  unfold getC
  dsimp only
  split
  · exact .inr rfl
  · exact .inl rfl
end Go.Ev
