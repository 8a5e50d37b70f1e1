/-
  A tree of pages, as a relation between what the pages hold and the pairs that they are.
-/
import Derived.Test.YtgfmhppkmogdhaaGreatDoorMOGvItem
set_option linter.unusedVariables false
set_option linter.unusedSimpArgs false
namespace Go.Ev

structure Pg where
  kind : Int
  next : Int
  body : Bytes
deriving DecidableEq, Inhabited

abbrev Store := Int → Option Pg

/-- A chain of pages that has a value. -/
inductive ChainAt (M : Store) : Int → Bytes → List Int → Prop
  | last {id : Int} {b : Bytes} : M id = some ⟨4, 0, b⟩ → 1 ≤ b.length → b.length ≤ 240 → ChainAt M id b [id]
  | more {id next : Int} {b rest : Bytes} {ids : List Int} : M id = some ⟨4, next, b⟩ → b.length = 240 → next ≠ 0 → ChainAt M next rest ids → ChainAt M id (b ++ rest) (id :: ids)

def ValAt (M : Store) (x : Item) (v : Bytes) (ids : List Int) : Prop :=
  (x.over = 0 ∧ v = x.val ∧ ids = []) ∨ (x.over ≠ 0 ∧ ChainAt M x.over v ids ∧ (v.length : Int) = x.size)

def LeafAt (M : Store) : List Item → List Pair → List Int → Prop
  | [], ps, ids => ps = [] ∧ ids = []
  | x :: l, ps, ids => ∃ v ps' i1 i2, ps = (x.key, v) :: ps' ∧ ids = i1 ++ i2 ∧ ValAt M x v i1 ∧ LeafAt M l ps' i2

/-- The bound behind. -/
def nextB (cs : List Child) (hi : Option Bytes) : Option Bytes := match cs with | [] => hi | c :: _ => some c.key

/-- Children side by side, each from its own key on to the next one's. -/
def Seg (T : Int → Bytes → Option Bytes → List Pair → List Int → Prop) : List Child → Option Bytes → List Pair → List Int → Prop
  | [], _, ps, ids => ps = [] ∧ ids = []
  | c :: cs, hi, ps, ids => ∃ p1 p2 i1 i2, ps = p1 ++ p2 ∧ ids = i1 ++ i2 ∧ T c.page c.key (nextB cs hi) p1 i1 ∧ Seg T cs hi p2 i2

/-- The first key laid anew. -/
def headKey (k : Bytes) : List Child → List Child
  | [] => []
  | c :: cs => { c with key := k } :: cs

def inR (lo : Bytes) (hi : Option Bytes) (k : Bytes) : Prop := lessB k lo = false ∧ ∀ h, hi = some h → lessB k h = true

/-- A tree so many levels high: its page, the bounds of its keys, its pairs, its pages; branches have so many children at least. -/
def TreeAt (M : Store) (d : Nat) : Nat → Int → Bytes → Option Bytes → List Pair → List Int → Prop
  | 0, id, lo, hi, ps, ids => ∃ items i2, M id = some ⟨2, 0, layI items⟩ ∧ riseI items = true ∧ (layI items).length ≤ 240 ∧ LeafAt M items ps i2 ∧ ids = id :: i2 ∧ ∀ p ∈ ps, inR lo hi p.1
  | k + 1, id, lo, hi, ps, ids => ∃ c L i2, M id = some ⟨3, 0, layC (headKey [] (c :: L))⟩ ∧ rightC (headKey [] (c :: L)) = true ∧ (layC (headKey [] (c :: L))).length ≤ 240 ∧ d ≤ L.length + 1 ∧ c.key = lo ∧
      Seg (fun i l h p q => TreeAt M d k i l h p q ∧ p ≠ []) (c :: L) hi ps i2 ∧ ids = id :: i2

/-- .. that has pairs. -/
def Sub (M : Store) (d k : Nat) (i : Int) (l : Bytes) (h : Option Bytes) (p : List Pair) (q : List Int) : Prop := TreeAt M d k i l h p q ∧ p ≠ []

-- the same pages, the same tree

def SameOn (M M' : Store) (ids : List Int) : Prop := ∀ i ∈ ids, M' i = M i

theorem ChainAt.same {M M' : Store} {id : Int} {v : Bytes} {ids : List Int} (h : ChainAt M id v ids) (hs : SameOn M M' ids) : ChainAt M' id v ids := by
  induction h with
  | last h1 h2 h3 => exact .last ((hs _ (List.mem_cons_self ..)).trans h1) h2 h3
  | more h1 h2 h3 _ ih => exact .more ((hs _ (List.mem_cons_self ..)).trans h1) h2 h3 (ih fun i hi => hs i (List.mem_cons_of_mem _ hi))

theorem SameOn.left {M M' : Store} {a b : List Int} (h : SameOn M M' (a ++ b)) : SameOn M M' a := fun i hi => h i (List.mem_append_left _ hi)
theorem SameOn.right {M M' : Store} {a b : List Int} (h : SameOn M M' (a ++ b)) : SameOn M M' b := fun i hi => h i (List.mem_append_right _ hi)

theorem ValAt.same {M M' : Store} {x : Item} {v : Bytes} {ids : List Int} (h : ValAt M x v ids) (hs : SameOn M M' ids) : ValAt M' x v ids := by
  rcases h with h | ⟨h1, h2, h3⟩
  · exact .inl h
  · exact .inr ⟨h1, h2.same hs, h3⟩

theorem LeafAt.same {M M' : Store} : ∀ {l : List Item} {ps : List Pair} {ids : List Int}, LeafAt M l ps ids → SameOn M M' ids → LeafAt M' l ps ids
  | [], _, _, h, _ => h
  | _ :: _, _, _, ⟨v, ps', i1, i2, h1, h2, h3, h4⟩, hs => by
    subst h2
    exact ⟨v, ps', i1, i2, h1, rfl, h3.same hs.left, h4.same hs.right⟩

theorem Seg.mono {T T' : Int → Bytes → Option Bytes → List Pair → List Int → Prop} : ∀ {L : List Child} {hi : Option Bytes} {ps : List Pair} {ids : List Int}, Seg T L hi ps ids → (∀ i l h p q, (∀ x ∈ q, x ∈ ids) → T i l h p q → T' i l h p q) → Seg T' L hi ps ids
  | [], _, _, _, h, _ => h
  | _ :: _, _, _, _, ⟨p1, p2, i1, i2, h1, h2, h3, h4⟩, hm => by
    subst h2
    exact ⟨p1, p2, i1, i2, h1, rfl, hm _ _ _ _ _ (fun x hx => List.mem_append_left _ hx) h3, h4.mono fun i l h p q hq => hm i l h p q fun x hx => List.mem_append_right _ (hq x hx)⟩

theorem TreeAt.same {M M' : Store} {d : Nat} : ∀ {k : Nat} {id : Int} {lo : Bytes} {hi : Option Bytes} {ps : List Pair} {ids : List Int}, TreeAt M d k id lo hi ps ids → SameOn M M' ids → TreeAt M' d k id lo hi ps ids
  | 0, id, lo, hi, ps, ids, ⟨items, i2, h1, h2, h3, h4, h5, h6⟩, hs => by
    subst h5
    exact ⟨items, i2, (hs _ (List.mem_cons_self ..)).trans h1, h2, h3, h4.same fun i hi => hs i (List.mem_cons_of_mem _ hi), rfl, h6⟩
  | k + 1, id, lo, hi, ps, ids, ⟨c, L, i2, h1, h2, h3, h4, h5, h6, h7⟩, hs => by
    subst h7
    refine ⟨c, L, i2, (hs _ (List.mem_cons_self ..)).trans h1, h2, h3, h4, h5, h6.mono fun i l h p q hq ht => ⟨TreeAt.same ht.1 fun x hx => hs x (List.mem_cons_of_mem _ (hq x hx)), ht.2⟩, rfl⟩

theorem Seg.append {T : Int → Bytes → Option Bytes → List Pair → List Int → Prop} : ∀ {a b : List Child} {hi : Option Bytes} {ps : List Pair} {ids : List Int},
    Seg T (a ++ b) hi ps ids ↔ ∃ p1 p2 i1 i2, ps = p1 ++ p2 ∧ ids = i1 ++ i2 ∧ Seg T a (nextB b hi) p1 i1 ∧ Seg T b hi p2 i2
  | [], b, hi, ps, ids => by
    constructor
    · intro h
      exact ⟨[], ps, [], ids, rfl, rfl, ⟨rfl, rfl⟩, h⟩
    · rintro ⟨p1, p2, i1, i2, rfl, rfl, ⟨rfl, rfl⟩, h⟩
      exact h
  | c :: a, b, hi, ps, ids => by
    have hn : nextB (a ++ b) hi = nextB a (nextB b hi) := by cases a <;> rfl
    constructor
    · rintro ⟨p1, p2, i1, i2, rfl, rfl, h3, h4⟩
      obtain ⟨p3, p4, i3, i4, rfl, rfl, h5, h6⟩ := Seg.append.1 h4
      exact ⟨p1 ++ p3, p4, i1 ++ i3, i4, by simp, by simp, ⟨p1, p3, i1, i3, rfl, rfl, hn ▸ h3, h5⟩, h6⟩
    · rintro ⟨p1, p2, i1, i2, rfl, rfl, ⟨p3, p4, i3, i4, rfl, rfl, h5, h6⟩, h7⟩
      exact ⟨p3, p4 ++ p2, i3, i4 ++ i2, by simp, by simp, hn ▸ h5, Seg.append.2 ⟨p4, p2, i4, i2, rfl, rfl, h6, h7⟩⟩

theorem inR.mono {lo lo' : Bytes} {hi hi' : Option Bytes} {k : Bytes} (h : inR lo hi k) (h1 : lessB lo lo' = false) (h2 : ∀ x, hi' = some x → ∃ y, hi = some y ∧ lessB x y = false) : inR lo' hi' k := by
  refine ⟨lessB_le_trans h1 h.1, fun x hx => ?_⟩
  obtain ⟨y, hy, hl⟩ := h2 x hx
  exact lessB_of_lt_le (h.2 y hy) hl

/-- Wider bounds. -/
theorem TreeAt.hi {M : Store} {d : Nat} : ∀ {k : Nat} {id : Int} {lo : Bytes} {hi hi' : Option Bytes} {ps : List Pair} {ids : List Int}, TreeAt M d k id lo hi ps ids → (∀ x, hi' = some x → ∃ y, hi = some y ∧ lessB x y = false) → TreeAt M d k id lo hi' ps ids
  | 0, id, lo, hi, hi', ps, ids, ⟨items, i2, h1, h2, h3, h4, h5, h6⟩, hh => ⟨items, i2, h1, h2, h3, h4, h5, fun p hp => (h6 p hp).mono (lessB_irrefl _) hh⟩
  | k + 1, id, lo, hi, hi', ps, ids, ⟨c, L, i2, h1, h2, h3, h4, h5, h6, h7⟩, hh => by
    refine ⟨c, L, i2, h1, h2, h3, h4, h5, ?_, h7⟩
    have : ∀ (L : List Child) (ps : List Pair) (ids : List Int), Seg (fun i l h p q => TreeAt M d k i l h p q ∧ p ≠ []) L hi ps ids → Seg (fun i l h p q => TreeAt M d k i l h p q ∧ p ≠ []) L hi' ps ids := by
      intro L
      induction L with
      | nil => exact fun _ _ h => h
      | cons c L ih =>
        rintro ps ids ⟨p1, p2, i1, i2, g1, g2, ⟨g3, g4⟩, g5⟩
        refine ⟨p1, p2, i1, i2, g1, g2, ⟨?_, g4⟩, ih _ _ g5⟩
        cases L with
        | nil => exact TreeAt.hi g3 hh
        | cons c' L => exact g3
    exact this _ _ _ h6

theorem TreeAt.lo {M : Store} {d : Nat} : ∀ {k : Nat} {id : Int} {lo lo' : Bytes} {hi : Option Bytes} {ps : List Pair} {ids : List Int}, TreeAt M d k id lo hi ps ids → lessB lo lo' = false → TreeAt M d k id lo' hi ps ids
  | 0, id, lo, lo', hi, ps, ids, ⟨items, i2, h1, h2, h3, h4, h5, h6⟩, hl => ⟨items, i2, h1, h2, h3, h4, h5, fun p hp => (h6 p hp).mono hl (fun x hx => ⟨x, hx, lessB_irrefl _⟩)⟩
  | k + 1, id, lo, lo', hi, ps, ids, ⟨c, L, i2, h1, h2, h3, h4, h5, ⟨p1, p2, i1, i3, g1, g2, ⟨g3, g4⟩, g5⟩, h7⟩, hl =>
    ⟨{ c with key := lo' }, L, i2, h1, h2, h3, h4, rfl, ⟨p1, p2, i1, i3, g1, g2, ⟨TreeAt.lo g3 (h5 ▸ hl), g4⟩, g5⟩, h7⟩

/-- All keys lie within the bounds. -/
theorem TreeAt.inR {M : Store} {d : Nat} : ∀ {k : Nat} {id : Int} {lo : Bytes} {hi : Option Bytes} {ps : List Pair} {ids : List Int}, TreeAt M d k id lo hi ps ids → ∀ p ∈ ps, inR lo hi p.1
  | 0, id, lo, hi, ps, ids, ⟨items, i2, h1, h2, h3, h4, h5, h6⟩ => h6
  | k + 1, id, lo, hi, ps, ids, ⟨c, L, i2, h1, h2, h3, h4, h5, h6, h7⟩ => by
    subst h5
    have : ∀ (L : List Child) (c : Child) (ps : List Pair) (ids : List Int), Seg (fun i l h p q => TreeAt M d k i l h p q ∧ p ≠ []) (c :: L) hi ps ids → ∀ p ∈ ps, Go.Ev.inR c.key hi p.1 := by
      intro L
      induction L with
      | nil =>
        rintro c ps ids ⟨p1, p2, i1, i2, rfl, g2, ⟨g3, g4⟩, rfl, rfl⟩
        intro p hp
        rw [List.append_nil] at hp
        exact TreeAt.inR g3 p hp
      | cons c' L ih =>
        rintro c ps ids ⟨p1, p2, i1, i2, rfl, g2, ⟨g3, g4⟩, g5⟩
        have hr := ih c' p2 i2 g5
        obtain ⟨q1, q2, j1, j2, e1, e2, ⟨f1, f2⟩, f3⟩ := _root_.id g5
        have hc := TreeAt.inR g3
        -- a pair of the first child, and one of the second
        obtain ⟨x, hx⟩ := List.exists_mem_of_ne_nil _ g4
        obtain ⟨y, hy⟩ := List.exists_mem_of_ne_nil _ f2
        have hyr := hr y (by rw [e1]; exact List.mem_append_left _ hy)
        have hxc := hc x hx
        have hcc : lessB c.key c'.key = true := lessB_of_le_lt hxc.1 (hxc.2 c'.key rfl)
        intro p hp
        rcases List.mem_append.1 hp with hp | hp
        · have hpc := hc p hp
          refine ⟨hpc.1, fun h hh => ?_⟩
          exact lessB_trans (hpc.2 c'.key rfl) (lessB_of_le_lt hyr.1 (hyr.2 h hh))
        · have hpr := hr p hp
          exact ⟨lessB_le_trans (lessB_asymm hcc) hpr.1, hpr.2⟩
    exact this L c ps i2 h6

theorem Seg.inR {M : Store} {d k : Nat} {L : List Child} {c : Child} {hi : Option Bytes} {ps : List Pair} {ids : List Int} (h : Seg (Sub M d k) (c :: L) hi ps ids) : ∀ p ∈ ps, Go.Ev.inR c.key hi p.1 := by
  revert c ps ids
  induction L with
  | nil =>
    rintro c ps ids ⟨p1, p2, i1, i2, rfl, g2, ⟨g3, g4⟩, rfl, rfl⟩
    intro p hp
    rw [List.append_nil] at hp
    exact TreeAt.inR g3 p hp
  | cons c' L ih =>
    rintro c ps ids ⟨p1, p2, i1, i2, rfl, g2, ⟨g3, g4⟩, g5⟩
    have hr := ih g5
    obtain ⟨q1, q2, j1, j2, e1, e2, ⟨f1, f2⟩, f3⟩ := _root_.id g5
    have hc := TreeAt.inR g3
    obtain ⟨x, hx⟩ := List.exists_mem_of_ne_nil _ g4
    obtain ⟨y, hy⟩ := List.exists_mem_of_ne_nil _ f2
    have hyr := hr y (by rw [e1]; exact List.mem_append_left _ hy)
    have hxc := hc x hx
    have hcc : lessB c.key c'.key = true := lessB_of_le_lt hxc.1 (hxc.2 c'.key rfl)
    intro p hp
    rcases List.mem_append.1 hp with hp | hp
    · have hpc := hc p hp
      refine ⟨hpc.1, fun h hh => ?_⟩
      exact lessB_trans (hpc.2 c'.key rfl) (lessB_of_le_lt hyr.1 (hyr.2 h hh))
    · have hpr := hr p hp
      exact ⟨lessB_le_trans (lessB_asymm hcc) hpr.1, hpr.2⟩

theorem leaf_rising {M : Store} : ∀ {l : List Item} {ps : List Pair} {ids : List Int}, LeafAt M l ps ids → riseI l = true → Rising ps ∧ ps.map (·.1) = l.map (·.key)
  | [], ps, ids, h, _ => by
    obtain ⟨rfl, rfl⟩ := h
    exact ⟨trivial, rfl⟩
  | [x], ps, ids, h, _ => by
    obtain ⟨v, ps', i1, i2, rfl, _, _, h4⟩ := h
    obtain ⟨rfl, rfl⟩ := h4
    exact ⟨⟨fun q hq => by simp at hq, trivial⟩, rfl⟩
  | x :: y :: l, ps, ids, h, hr => by
    obtain ⟨v, ps', i1, i2, rfl, _, _, h4⟩ := h
    simp only [riseI, Bool.and_eq_true] at hr
    obtain ⟨r1, r2⟩ := leaf_rising h4 hr.2
    refine ⟨⟨fun q hq => ?_, r1⟩, by simp [r2]⟩
    obtain ⟨v', ps'', j1, j2, rfl, _, _, _⟩ := h4
    rcases List.mem_cons.1 hq with rfl | hq
    · exact hr.1.2
    · exact lessB_trans hr.1.2 (r1.1 q hq)

theorem TreeAt.rising {M : Store} {d : Nat} : ∀ {k : Nat} {id : Int} {lo : Bytes} {hi : Option Bytes} {ps : List Pair} {ids : List Int}, TreeAt M d k id lo hi ps ids → Rising ps
  | 0, id, lo, hi, ps, ids, ⟨items, i2, h1, h2, h3, h4, h5, h6⟩ => (leaf_rising h4 h2).1
  | k + 1, id, lo, hi, ps, ids, ⟨c, L, i2, h1, h2, h3, h4, h5, h6, h7⟩ => by
    have : ∀ (L : List Child) (ps : List Pair) (ids : List Int), Seg (Sub M d k) L hi ps ids → Rising ps := by
      intro L
      induction L with
      | nil => rintro ps ids ⟨rfl, rfl⟩; trivial
      | cons c L ih =>
        rintro ps ids ⟨p1, p2, i1, i2, rfl, g2, ⟨g3, g4⟩, g5⟩
        refine Rising.append.2 ⟨TreeAt.rising g3, ih _ _ g5, fun p hp q hq => ?_⟩
        cases L with
        | nil => obtain ⟨rfl, rfl⟩ := g5; cases hq
        | cons c' L =>
          have h1 := (TreeAt.inR g3 p hp).2 c'.key rfl
          exact lessB_of_lt_le h1 (Seg.inR g5 q hq).1
    exact this _ _ _ h6
end Go.Ev
