/-
  A cursor over a tree that stands at a pair, or nowhere: what each of its calls does, in one form for all of them. A cursor stands still while rows of pairs are turned.
-/
import Derived.Test.YtgfmhppkmogdhaaGreatDoorMPGwRangeLaw
import Derived.Test.YtgfmhppkmogdhaaGreatDoorMPGwPutT
import Derived.Test.YtgfmhppkmogdhaaGreatDoorMPGwPick
set_option linter.unusedVariables false
set_option linter.unusedSimpArgs false
set_option linter.unusedVariables false
set_option linter.unusedSimpArgs false
namespace Go.Ev
open Go.Proofs Go.RowKit

/-- Where a cursor stands. -/
def CurSt (w : World) (p : Nat) (x : Cc) (root : Int) (M : Store) (all : List Pair) : Option Nat → Prop
  | some i => CurPos w p x root M all i
  | none => CurNo w p x root

section
variable {p most cnt B b : Nat} {c : Pc} {M : Store} {all : List Pair} {x : Cc} {root : Int} {w w' : World} {o : Option Nat}

theorem CurSt.at (h : CurSt w p x root M all o) : ∃ st items j on, CurAt w p x root st items j on := by
  cases o with
  | some i => obtain ⟨st, its, _, _, _, _, _, j, hc, _⟩ := h; exact ⟨st, its, _, _, hc⟩
  | none => obtain ⟨st, its, j, hc⟩ := h; exact ⟨st, its, j, _, hc⟩

theorem CurSt.below (h : CurSt w p x root M all o) (hb : Below w.heap.size w w') : CurSt w' p x root M all o := by
  cases o with
  | some i => obtain ⟨st, its, lo, hi, ps, off, lid, j, hc, hr⟩ := h; exact ⟨st, its, lo, hi, ps, off, lid, j, hc.below hb, hr⟩
  | none => obtain ⟨st, its, j, hc⟩ := h; exact ⟨st, its, j, hc.below hb⟩

/-- A cursor, the pager behind it; all of the cursor is younger than B, and none of the blocks F is its own. -/
structure CSt (B : Nat) (F : Nat → Prop) (p b : Nat) (c : Pc) (most cnt : Nat) (M : Store) (root : Int) (all : List Pair) (o : Option Nat) (w : World) : Prop where
  pg : PgOk w p c most M cnt
  size : B ≤ w.heap.size
  old : ∀ k, F k → k < w.heap.size
  cur : ∃ x : Cc, x.b = b ∧ CurSt w p x root M all o ∧ (∀ j, c.S p j → ¬ x.S j) ∧ ∀ k, x.S k → B ≤ k ∧ ¬ F k

/-- Blocks that a cursor's call may turn. -/
def Frm (B : Nat) (F : Nat → Prop) (k : Nat) : Prop := B ≤ k ∧ ¬ F k

theorem CurSt.lt (h : CurSt w p x root M all o) : ∀ k, x.S k → k < w.heap.size := by
  obtain ⟨st, its, j, on, hc⟩ := h.at
  exact hc.lt

/-- More blocks that are not the cursor's: such as were made behind it. -/
theorem CSt.also {F F' : Nat → Prop} (h : CSt B F p b c most cnt M root all o w) (hb : Below w.heap.size w w') (hF : ∀ k, F' k → F k ∨ w.heap.size ≤ k ∧ k < w'.heap.size) : CSt B F' p b c most cnt M root all o w' := by
  obtain ⟨x, h1, h2, h3, h4⟩ := h.cur
  refine ⟨h.pg.below hb, Nat.le_trans h.size hb.size, fun k hk => ?_, x, h1, h2.below hb, h3, fun k hk => ⟨(h4 k hk).1, fun hf => ?_⟩⟩
  · rcases hF k hk with h' | h'
    · exact Nat.lt_of_lt_of_le (h.old k h') hb.size
    · exact h'.2
  · rcases hF k hf with h' | h'
    · exact (h4 k hk).2 h'
    · have := h2.lt k hk
      omega

theorem CSt.below {F : Nat → Prop} (h : CSt B F p b c most cnt M root all o w) (hb : Below w.heap.size w w') : CSt B F p b c most cnt M root all o w' := h.also hb fun _ h => .inl h

/-- A call that says whether the cursor stands somewhere, and where. -/
def CStP (B : Nat) (F : Nat → Prop) (p b : Nat) (c : Pc) (most cnt : Nat) (M : Store) (root : Int) (all : List Pair) (o : Option Nat) (w : World) (e : Ending) (w' : World) : Prop :=
  e = .returned (.bool o.isSome) ∧ CSt B F p b c most cnt M root all o w' ∧ Keeps (Frm B F) w w'

theorem goes_st {e : Ending} {F : Nat → Prop} (h : PgOk w p c most M cnt) (hB : B ≤ w.heap.size) (hF : ∀ k, F k → k < w.heap.size) (hb : x.b = b) (hn : ∀ j, c.S p j → ¬ x.S j) (hx : ∀ k, x.S k → B ≤ k ∧ ¬ F k) (hg : GoesP p x root M all o w e w') : CStP B F p b c most cnt M root all o w e w' := by
  obtain ⟨rfl, x', h1, hk⟩ := hg
  have hz := hk.keeps.size
  refine ⟨rfl, ⟨h.keeps hk.keeps fun k h1 h2 => hn k h1 h2, Nat.le_trans hB hz, fun k hk => Nat.lt_of_lt_of_le (hF k hk) hz, x', hk.same.trans hb, ?_, hk.hn h hn, fun k e => ?_⟩, hk.keeps.mono fun i hi e => hx i e⟩
  · cases o <;> exact h1
  · rcases hk.sub k e with e | e
    · exact hx k e
    · exact ⟨by omega, fun hf => by have := hF k hf; omega⟩

theorem low_of (hT : TreeOk M root all cnt) (hl : all.length ≤ 511) : (∃ kk ids, TreeAt M 2 kk root [] none all ids ∧ kk < 30) ∧ Low M all := by
  obtain ⟨⟨k, ids, h1, h2, h3⟩, hs⟩ := hT
  have hL : Low M all := fun k id ids hT => by
    have := high_bound (tree_bound hs hT hl).2 (Nat.le_refl _)
    omega
  exact ⟨⟨k, ids, h1, hL _ _ _ h1⟩, hL⟩

theorem first_st {F : Nat → Prop} (hT : TreeOk M root all cnt) (hl : all.length ≤ 511) (h : CSt B F p b c most cnt M root all o w) :
    Calls Tryz.prog 14 #[ptrV b] w (CStP B F p b c most cnt M root all (if all = [] then none else some 0) w) := by
  obtain ⟨x, rfl, h2, h3, h4⟩ := h.cur
  obtain ⟨st, its, j, on, hc⟩ := h2.at
  obtain ⟨⟨kk, ids, hA, hk⟩, _⟩ := low_of hT hl
  exact (first_ok kk ids h.pg hA hk hc h3).mono fun e w' hg => goes_st h.pg h.size h.old rfl h3 h4 hg

theorem last_st {F : Nat → Prop} (hT : TreeOk M root all cnt) (hl : all.length ≤ 511) (h : CSt B F p b c most cnt M root all o w) :
    Calls Tryz.prog 15 #[ptrV b] w (CStP B F p b c most cnt M root all (if all = [] then none else some (all.length - 1)) w) := by
  obtain ⟨x, rfl, h2, h3, h4⟩ := h.cur
  obtain ⟨st, its, j, on, hc⟩ := h2.at
  obtain ⟨⟨kk, ids, hA, hk⟩, _⟩ := low_of hT hl
  exact (last_ok kk ids h.pg hA hk hc h3).mono fun e w' hg => goes_st h.pg h.size h.old rfl h3 h4 hg

theorem seek_st {F : Nat → Prop} (key : Bytes) (hT : TreeOk M root all cnt) (hl : all.length ≤ 511) (h : CSt B F p b c most cnt M root all o w) :
    Calls Tryz.prog 16 #[ptrV b, strV key] w (CStP B F p b c most cnt M root all (if aheadP key all < all.length then some (aheadP key all) else none) w) := by
  obtain ⟨x, rfl, h2, h3, h4⟩ := h.cur
  obtain ⟨st, its, j, on, hc⟩ := h2.at
  obtain ⟨⟨kk, ids, hA, hk⟩, hL⟩ := low_of hT hl
  exact (seek_ok kk ids key h.pg hA hL hc h3).mono fun e w' hg => goes_st h.pg h.size h.old rfl h3 h4 hg

theorem next_st {F : Nat → Prop} {i : Nat} (hT : TreeOk M root all cnt) (hl : all.length ≤ 511) (h : CSt B F p b c most cnt M root all (some i) w) :
    Calls Tryz.prog 18 #[ptrV b] w (CStP B F p b c most cnt M root all (if i + 1 < all.length then some (i + 1) else none) w) := by
  obtain ⟨x, rfl, h2, h3, h4⟩ := h.cur
  exact (next_ok i h.pg h2 h3 (low_of hT hl).2).mono fun e w' hg => goes_st h.pg h.size h.old rfl h3 h4 hg

theorem prev_st {F : Nat → Prop} {i : Nat} (hT : TreeOk M root all cnt) (hl : all.length ≤ 511) (h : CSt B F p b c most cnt M root all (some i) w) :
    Calls Tryz.prog 19 #[ptrV b] w (CStP B F p b c most cnt M root all (if 0 < i then some (i - 1) else none) w) := by
  obtain ⟨x, rfl, h2, h3, h4⟩ := h.cur
  exact (prev_ok i h.pg h2 h3 (low_of hT hl).2).mono fun e w' hg => goes_st h.pg h.size h.old rfl h3 h4 hg

theorem nextNo_st {F : Nat → Prop} (h : CSt B F p b c most cnt M root all none w) :
    Calls Tryz.prog 18 #[ptrV b] w fun e w' => e = .returned (.bool false) ∧ w = w' := by
  obtain ⟨x, rfl, ⟨st, its, j, hc⟩, h3, h4⟩ := h.cur
  exact next_no hc

theorem prevNo_st {F : Nat → Prop} (h : CSt B F p b c most cnt M root all none w) :
    Calls Tryz.prog 19 #[ptrV b] w fun e w' => e = .returned (.bool false) ∧ w = w' := by
  obtain ⟨x, rfl, ⟨st, its, j, hc⟩, h3, h4⟩ := h.cur
  exact prev_no hc

theorem err_st {F : Nat → Prop} (h : CSt B F p b c most cnt M root all o w) :
    Calls Tryz.prog 21 #[ptrV b] w fun e w' => e = .returned (.int .i64 0) ∧ w = w' := by
  obtain ⟨x, rfl, h2, h3, h4⟩ := h.cur
  obtain ⟨st, its, j, on, hc⟩ := h2.at
  exact err_ok hc

/-- What is told of the pair where one stands. -/
def pairAt (all : List Pair) : Option Nat → Pair × Bool
  | some i => (all[i]?.getD ([], []), true)
  | none => (([], []), false)

theorem pair_st {F : Nat → Prop} (hT : TreeOk M root all cnt) (h : CSt B F p b c most cnt M root all o w) :
    Calls Tryz.prog 20 #[ptrV b] w fun e w' => e = .returned (.tuple #[pairV (pairAt all o).1, .bool (pairAt all o).2]) ∧ Below w.heap.size w w' := by
  obtain ⟨x, rfl, h2, h3, h4⟩ := h.cur
  cases o with
  | some i =>
    refine (pair_ok i h.pg h2 hT.short).mono ?_
    rintro e w' ⟨q, h1, rfl, hb⟩
    exact ⟨by simp [pairAt, h1], hb⟩
  | none =>
    obtain ⟨st, its, j, hc⟩ := h2
    exact pair_no hc

theorem new_st (hT : PgOk w p c most M cnt) :
    Calls Tryz.prog 13 #[ptrV p, .int .i64 root] w fun e w' => ∃ b, e = .returned (ptrV b) ∧ CSt w.heap.size (fun _ => False) p b c most cnt M root all none w' ∧ Below w.heap.size w w' := by
  refine (new_any root w).mono ?_
  rintro e w' ⟨x, rfl, hc, hx, hb⟩
  exact ⟨x.b, rfl, ⟨hT.below hb, hb.size, fun k h => h.elim, x, rfl, ⟨_, _, _, hc⟩, fun j hj e => by have := hT.lt j hj; have := hx j e; omega, fun k e => ⟨hx k e, fun h => h⟩⟩, hb⟩
end
end Go.Ev

set_option linter.unusedVariables false
set_option linter.unusedSimpArgs false
namespace Go.Ev
open Go.Proofs Go.RowKit

theorem own_row {w : World} {base z n : Nat} {e : TypeId} {v : Value} {xs : List Value} (h : w.ownsRow base e z v n xs) (k : Nat) (hk : v.ownBlock = some k) : ∃ cur, w.heap[k]? = some (.cells cur e (0, 0)) := by
  rcases h.2 with ⟨rfl, _⟩ | ⟨g, cap, cur, rfl, _, hg, _⟩
  · cases hk
  · simp only [Value.ownBlock, Option.some.injEq] at hk
    subst hk
    exact ⟨cur, hg⟩

theorem below_frm {B : Nat} {F : Nat → Prop} {w w' : World} (h : Keeps (Frm B F) w w') (hB : B ≤ w.heap.size) : Below B w w' := h.below hB fun i hi e => by have := e.1; omega

section
variable {p mst cnt B b : Nat} {c : Pc} {M : Store} {all : List Pair} {x : Cc} {root : Int} {w w' : World} {o : Option Nat}

theorem CurSt.turnP {S : Nat → Prop} (h : CurSt w p x root M all o) (hk : Keeps S w w') (hS : ∀ k, S k → k < w.heap.size → ∃ cs fr, w.heap[k]? = some (.cells cs 44 fr)) : CurSt w' p x root M all o := by
  have key : ∀ {st items j on}, CurAt w p x root st items j on → CurAt w' p x root st items j on := fun {st items j on} hc => by
    refine hc.keeps hk ?_ ?_ ?_
    · rintro k (rfl | hk') hs
      · have hb := hc.blk
        obtain ⟨cs, fr, hp⟩ := hS _ hs hb.lt
        unfold Blk at hb
        rw [hb] at hp
        cases hp
      · obtain ⟨cur, hr⟩ := own_row hc.path k hk'
        obtain ⟨cs, fr, hp⟩ := hS _ hs (hc.path.lt k hk').2
        rw [hr] at hp
        cases hp
    · intro s hm j hj hs
      have hO := (hc.kids s hm).1
      unfold OwnsC at hO
      obtain ⟨cur, hr⟩ := own_row hO j hj
      obtain ⟨cs, fr, hp⟩ := hS _ hs (hO.lt j hj).2
      rw [hr] at hp
      cases hp
    · intro j hj hs
      have hO := hc.its
      unfold OwnsI at hO
      obtain ⟨cur, hr⟩ := own_row hO j hj
      obtain ⟨cs, fr, hp⟩ := hS _ hs (hO.lt j hj).2
      rw [hr] at hp
      cases hp
  cases o with
  | some i => obtain ⟨st, its, lo, hi, ps, off, lid, j, hc, hr⟩ := h; exact ⟨st, its, lo, hi, ps, off, lid, j, key hc, hr⟩
  | none => obtain ⟨st, its, j, hc⟩ := h; exact ⟨st, its, j, key hc⟩

/-- Rows of pairs are turned beside a cursor. -/
theorem CSt.turnP {S F F' : Nat → Prop} (h : CSt B F p b c mst cnt M root all o w) (hk : Keeps S w w') (hS : ∀ k, S k → k < w.heap.size → ∃ cs fr, w.heap[k]? = some (.cells cs 44 fr)) (hSB : ∀ k, S k → B ≤ k) (hcB : ∀ k, c.S p k → k < B)
    (hF : ∀ k, F' k → F k ∨ S k ∧ k < w.heap.size ∨ w.heap.size ≤ k ∧ k < w'.heap.size) : CSt B F' p b c mst cnt M root all o w' := by
  obtain ⟨x, h1, h2, h3, h4⟩ := h.cur
  refine ⟨h.pg.keeps hk fun k hk1 hk2 => by have := hcB k hk1; have := hSB k hk2; omega, Nat.le_trans h.size hk.size, fun k hk' => ?_, x, h1, h2.turnP hk hS, h3, fun k hk' => ⟨(h4 k hk').1, fun hf => ?_⟩⟩
  · have hz := hk.size
    rcases hF k hk' with h' | h' | h'
    · exact Nat.lt_of_lt_of_le (h.old k h') hz
    · omega
    · exact h'.2
  · have hlt := h2.lt k hk'
    rcases hF k hf with h' | h' | h'
    · exact (h4 k hk').2 h'
    · obtain ⟨cs, fr, hp⟩ := hS k h'.1 h'.2
      obtain ⟨st, its, j, on, hc⟩ := h2.at
      rcases hk' with rfl | hk'
      · have hb := hc.blk
        unfold Blk at hb
        rw [hb] at hp
        cases hp
      · obtain ⟨cur, hr⟩ := own_row hc.path k hk'
        rw [hr] at hp
        cases hp
    · omega
end
end Go.Ev
