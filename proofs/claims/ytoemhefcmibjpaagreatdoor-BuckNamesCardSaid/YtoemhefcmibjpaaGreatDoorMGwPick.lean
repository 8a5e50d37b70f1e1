/-
  A region in the order of its text, within a round. How many pages a tree has at most, and how high it is: branches have two children at least. A key is taken out of a leaf. A key taken out of a leaf; a root that has one child left; what a history of puts and deletes leaves of a tree's levels. The root behind a put or a delete: again a tree, with two children at least at its root; and how high trees can come to be. A range over a function whose rounds come in a known order, and of which one may leave by a return: the law, directed by the list of what comes. How many pages a tree has: its nodes, level by level, and the chains of its values. A pair put into a tree that has been deleted from, a key taken out: what the leaf becomes, the branches above, the root, and the history. A tree that has been deleted from, in short: its history, how many levels it has, an empty one. Where a cursor stands: a way into a tree, and how many pairs lie ahead of it. What a cursor picks.
-/
import Derived.Test.YtoemhefcmibjpaaGreatDoorMGvGetC
import Derived.Tactics
import Derived.Test.YtoemhefcmibjpaaGreatDoorMGwPilePut
import Derived.OwnWalkIn
import Derived.Test.YtoemhefcmibjpaaGreatDoorMGvUpsG
import Derived.RangeFuncNested
import Derived.RangeFuncBound
import Derived.RangeFuncLeaves
import Derived.Test.YtoemhefcmibjpaaGreatDoorMGwReplace
set_option linter.unusedVariables false
set_option linter.unusedSimpArgs false
namespace Go.Ev
open Go.RowKit
variable {P : Program} {l n : Nat}
theorem wpListIn_append_at {w : World} {ops : Array Oper} {rest : List Oper} {o : Oper} {a : Act} {Q : Exit → Act → World → Prop} (hgd : o.guard = none) (s x : Operand) (t : TypeId)
  (ho : o.op = .call { callee := .builtin .append, args := #[s, x], argTypes := #[t, t] })
  (base : Nat) (e : TypeId) (i : TypeInfo) (z : Value) (size bytes : Nat) (ht : P.underlying t = some (.slice e)) (hi : P.info? e = some i) (hz : i.zero = some z)
  (hsize : i.size = size) (hby : i.bytes = bytes) (hzs : z.cells.size = size) (hsz : 0 < size)
  (v : Value) (k : Nat) (xs : List Value) (hs : a.eval s = v) (hown : w.ownsRow base e size v k xs)
  (ad : Addr) (m c : Nat) (news : List Value) (hx : a.eval x = .slice (some ad) m c) (hl : news.length = m * size) (hnews : ∀ j u, news[j]? = some u → w.cell? (ad.add j) = some u) (h1 : ∀ u ∈ news, u.oneCell' = true)
  (h63 : k + m ≤ maxLen) (hbytes : (k + m) * bytes ≤ 140737488355328) (hbase : base ≤ w.heap.size)
  (h : ∀ v' w', w'.ownsRow base e size v' (k + m) (xs ++ news) → w.grownBy w' v.ownBlock → (∀ j, v'.ownBlock = some j → v.ownBlock = some j ∨ w.heap.size ≤ j) → wpListIn (wideR l) n P ops Q rest (a.put o.dst v') w') : wpListIn (wideR l) n P ops Q (o :: rest) a w :=
 wpListIn_plain hgd fun _ hK => oper_round (fun c => by rw [ho]; intro e; cases e) (wp_append_at s x t ho base e i z size bytes ht hi hz hsize hby hzs hsz v k xs hs hown ad m c news hx hl hnews h1 h63 hbytes hbase fun v' w' h2 h3 h4 => hK _ _ (h v' w' h2 h3 h4))
end Go.Ev

namespace Go.Ev
open Go.Lib
def Short (ps : List Pair) : Prop := ∀ q ∈ ps, q.2.length ≤ 2000
theorem chain_len {M : Store} {id : Int} {v : Bytes} {ids : List Int} (h : ChainAt M id v ids) : 240 * ids.length ≤ v.length + 239 := by
 induction h with
 | last h1 h2 h3 => simp; omega
 | more h1 h2 h3 _ ih => simp only [List.length_cons, List.length_append]; omega
theorem val_len {M : Store} {x : Item} {v : Bytes} {ids : List Int} (h : ValAt M x v ids) (hv : v.length ≤ 2000) : ids.length ≤ 9 := by
 rcases h with ⟨_, _, rfl⟩ | ⟨_, h, _⟩
 ·simp
 ·have := chain_len h; omega
theorem insP_short {k v : Bytes} {ps : List Pair} (h : Short ps) (hv : v.length ≤ 2000) : Short (insP k v ps) := fun q hq => by
 rcases insP_mem hq with rfl | hq
 ·exact hv
 ·exact h q hq
end Go.Ev

namespace Go.Ev
open Go.Lib
theorem delP_before {key : List UInt8} (a b : List Pair) (h : ∀ q ∈ a, lessB q.1 key = true) : delP key (a ++ b) = a ++ delP key b := delP_pre fun q hq => lessB_ne (h q hq)
theorem delP_behind {key : List UInt8} (a b : List Pair) (h : ∀ q ∈ b, lessB key q.1 = true) : delP key (a ++ b) = delP key a ++ b := delP_post fun q hq => (lessB_ne (h q hq)).symm
theorem delI_cons (y : Item) (l : List Item) (k : Bytes) : delI (y :: l) k = if lessB y.key k then y :: delI l k else if y.key = k then l else y :: l := by
 cases h1 : lessB y.key k with
 | true =>
  cases h2 : isAt k l with
  | true => simp [delI, isAt, ahead, h1, h2]
  | false => simp [delI, isAt, h1, h2]
 | false =>
  by_cases h2 : y.key = k
  ·simp [delI, isAt, ahead, h1, h2]
   rw [← h2]
   simp [lessB_irrefl]
  ·simp [delI, isAt, h1, h2]
theorem layI_del (k : Bytes) : ∀ l : List Item, (layI (delI l k)).length ≤ (layI l).length
 | [] => by simp [delI, isAt, layI]
 | y :: l => by
  have := layI_del k l
  rw [delI_cons]
  split
  ·simp only [layI, List.length_append]; omega
  ·split
   ·simp only [layI, List.length_append]; omega
   ·exact Nat.le_refl _
theorem leaf_del {M : Store} {key : Bytes} : ∀ {items : List Item} {ps : List Pair} {i2 : List Int}, riseI items = true → LeafAt M items ps i2 → ∃ old, OldAt M items key ps old ∧ ∃ i2', LeafAt M (delI items key) (delP key ps) i2' ∧ (i2' ++ old).Perm i2
 | [], ps, i2, hr, h => by
  obtain ⟨rfl, rfl⟩ := h
  exact ⟨[], .inl ⟨rfl, rfl⟩, [], ⟨rfl, rfl⟩, by simp⟩
 | y :: l, ps, i2, hr, h => by
  obtain ⟨v1, ps', j1, j2, rfl, rfl, h3, h4⟩ := h
  have hr1 := (riseI_tail hr).1
  have hr2 := (riseI_tail hr).2
  have hps : ∀ q ∈ ps', lessB y.key q.1 = true := by
   intro q hq
   have hm := (leaf_rising h4 hr1).2
   have : q.1 ∈ ps'.map (·.1) := List.mem_map_of_mem hq
   rw [hm] at this
   obtain ⟨it, hit, e⟩ := List.mem_map.1 this
   rw [← e]
   exact hr2 it hit
  simp only [OldAt, isAt, ahead]
  by_cases hlt : lessB y.key key = true
  ·obtain ⟨old, q1, i2', q3, q4⟩ := leaf_del (key := key) hr1 h4
   refine ⟨old, ?_, j1 ++ i2', ?_, ?_⟩
   ·simp only [hlt, if_true]
    rcases q1 with q1 | ⟨it, v', k1, k2, k3, k4⟩
    ·exact .inl q1
    ·exact .inr ⟨it, v', k1, by simpa using k2, k3, List.mem_cons_of_mem _ k4⟩
   ·rw [delI_cons, if_pos hlt]
    have : delP key ((y.key, v1) :: ps') = (y.key, v1) :: delP key ps' := by
     have := delP_before (key := key) [(y.key, v1)] ps' (fun q hq => by rw [List.mem_singleton.1 hq]; exact hlt)
     exact this
    rw [this]
    exact ⟨v1, _, j1, i2', rfl, rfl, h3, q3⟩
   ·rw [List.perm_iff_count] at q4 ⊢
    intro a
    have := q4 a
    simp only [List.count_append] at this ⊢
    omega
  ·by_cases he : y.key = key
   ·refine ⟨j1, ?_, j2, ?_, ?_⟩
    ·refine .inr ⟨y, v1, ?_, ?_, h3, ?_⟩
     ·rw [if_neg hlt]; simpa using he
     ·rw [if_neg hlt]; rfl
     ·rw [← he]; exact List.mem_cons_self ..
    ·rw [delI_cons, if_neg hlt, if_pos he]
     have : delP key ((y.key, v1) :: ps') = ps' := by
      have h1 := delP_behind (key := key) [(y.key, v1)] ps' (fun q hq => by rw [← he]; exact hps q hq)
      have h2 : delP key [(y.key, v1)] = [] := by simp [delP, he]
      rw [h2] at h1
      exact h1
     rw [this]
     exact h4
    ·rw [List.perm_iff_count]
     intro a
     simp only [List.count_append]
     omega
   ·have hgt : lessB key y.key = true := by
     rcases lessB_total y.key key with h | h | h
     ·exact absurd h hlt
     ·exact absurd h he
     ·exact h
    refine ⟨[], .inl ⟨by rw [if_neg hlt]; simpa using he, rfl⟩, j1 ++ j2, ?_, by simp⟩
    rw [delI_cons, if_neg hlt, if_neg he]
    have : delP key ((y.key, v1) :: ps') = (y.key, v1) :: ps' := delP_out fun q hq => by
     rcases List.mem_cons.1 hq with rfl | hq
     ·exact he
     ·exact (lessB_ne (lessB_trans hgt (hps q hq))).symm
    rw [this]
    exact ⟨v1, _, j1, j2, rfl, rfl, h3, h4⟩
theorem isAt_get {M : Store} {key : Bytes} : ∀ {items : List Item} {ps : List Pair} {i2 : List Int}, riseI items = true → LeafAt M items ps i2 → isAt key items = (getP key ps).isSome
 | [], ps, i2, hr, h => by
  obtain ⟨rfl, rfl⟩ := h
  rfl
 | y :: l, ps, i2, hr, h => by
  obtain ⟨v1, ps', j1, j2, rfl, rfl, h3, h4⟩ := h
  have hr1 := (riseI_tail hr).1
  have hr2 := (riseI_tail hr).2
  have hps : ∀ q ∈ ps', lessB y.key q.1 = true := by
   intro q hq
   have hm := (leaf_rising h4 hr1).2
   have : q.1 ∈ ps'.map (·.1) := List.mem_map_of_mem hq
   rw [hm] at this
   obtain ⟨it, hit, e⟩ := List.mem_map.1 this
   rw [← e]
   exact hr2 it hit
  simp only [isAt, getP]
  cases h1 : lessB y.key key with
  | true =>
   rw [if_pos rfl, if_neg (lessB_ne h1)]
   exact isAt_get hr1 h4
  | false =>
   rw [if_neg (by decide)]
   by_cases h2 : y.key = key
   ·simp [h2]
   ·rw [if_neg h2, getP_none fun p hp e => by
     have := hps p hp
     rw [e, h1] at this
     cases this]
    simp [h2]
end Go.Ev

namespace Go.Ev
open Go.Lib
inductive Shrink (M : Store) : Int → Int → List Int → Prop
 | leaf {id : Int} {items : List Item} : M id = some ⟨2, 0, layI items⟩ → riseI items = true → (layI items).length ≤ 240 → items ≠ [] → Shrink M id id []
 | wide {id : Int} {L : List Child} : M id = some ⟨3, 0, layC L⟩ → rightC L = true → (layC L).length ≤ 240 → 2 ≤ L.length → Shrink M id id []
 | one {id root : Int} {x : Child} {drp : List Int} : M id = some ⟨3, 0, layC [x]⟩ → rightC [x] = true → (layC [x]).length ≤ 240 → Shrink M x.page root drp → Shrink M id root (id :: drp)
theorem Shrink.det {M : Store} {id r1 r2 : Int} {d1 d2 : List Int} (h : Shrink M id r1 d1) (k : Shrink M id r2 d2) : r1 = r2 ∧ d1 = d2 := by
 induction h generalizing r2 d2 with
 | leaf h1 h2 h3 h4 =>
  cases k with
  | leaf => exact ⟨rfl, rfl⟩
  | wide g1 => rw [h1] at g1; simp at g1
  | one g1 => rw [h1] at g1; simp at g1
 | wide h1 h2 h3 h4 =>
  cases k with
  | leaf g1 => rw [h1] at g1; simp at g1
  | wide => exact ⟨rfl, rfl⟩
  | one g1 g2 g3 =>
   rw [h1] at g1
   simp only [Option.some.injEq, Pg.mk.injEq, true_and] at g1
   have := layC_inj h2 g2 h3 g1
   subst this
   simp at h4
 | one h1 h2 h3 _ ih =>
  cases k with
  | leaf g1 => rw [h1] at g1; simp at g1
  | wide g1 g2 g3 g4 =>
   rw [h1] at g1
   simp only [Option.some.injEq, Pg.mk.injEq, true_and] at g1
   have := layC_inj h2 g2 h3 g1
   subst this
   simp at g4
  | one g1 g2 g3 g4 =>
   rw [h1] at g1
   simp only [Option.some.injEq, Pg.mk.injEq, true_and] at g1
   have := layC_inj h2 g2 h3 g1
   simp only [List.cons.injEq, and_true] at this
   subst this
   obtain ⟨e1, e2⟩ := ih g4
   exact ⟨e1, by rw [e2]⟩
structure TopAt (M : Store) (k : Nat) (root : Int) (ps : List Pair) (ids : List Int) : Prop where
 tree : TreeAt M 1 k root [] none ps ids
 wide : k = 0 ∨ 2 ≤ (kidsAt M root).length
theorem meas_above {f : List Item → Nat} {g : List Child → Nat} {M : Store} : ∀ {k : Nat} {id : Int} {l : Nat}, k < l → meas f g M k id l = 0
 | 0, id, l, h => by simp only [meas]; rw [if_neg (by omega)]
 | k + 1, id, l, h => by
  simp only [meas]
  rw [if_neg (by omega)]
  have : ∀ L : List Child, sumN (fun c => meas f g M k c.page l) L = 0 := by
   intro L
   induction L with
   | nil => rfl
   | cons c L ih => rw [sumN, ih, meas_above (show k < l by omega)]
  exact this _
theorem shrink_law {M : Store} : ∀ {k : Nat} {id : Int} {lo : Bytes} {hi : Option Bytes} {ps : List Pair} {ids : List Int}, TreeAt M 1 k id lo hi ps ids → ps ≠ [] →
  ∃ root drp k' ids', Shrink M id root drp ∧ k' ≤ k ∧ TreeAt M 1 k' root lo hi ps ids' ∧ ids = drp ++ ids' ∧ (k' = 0 ∨ 2 ≤ (kidsAt M root).length) ∧ (∀ (f : List Item → Nat) (g : List Child → Nat) l, l ≤ k' → meas f g M k' root l = meas f g M k id l)
 | 0, id, lo, hi, ps, ids, h, hne => by
  have h' := h
  obtain ⟨items, i2, h1, h2, h3, h4, h5, h6⟩ := h
  exact ⟨id, [], 0, ids, .leaf h1 h2 h3 (fun e => hne (by subst e; exact h4.1)), Nat.le_refl _, h', rfl, .inl rfl, fun _ _ _ _ => rfl⟩
 | k + 1, id, lo, hi, ps, ids, h, hne => by
  have h' := h
  obtain ⟨c, L, i2, h1, h2, h3, h4, h5, h6, h7⟩ := h
  by_cases hL : L = []
  ·subst hL
   obtain ⟨p1, p2, j1, j2, e1, e2, ⟨g1, g2⟩, g3, g4⟩ := h6
   subst g3 g4
   rw [List.append_nil] at e1 e2
   subst e1 e2
   rw [h5] at g1
   obtain ⟨root, drp, k', ids', q1, q2, q3, q4, q5, q6⟩ := shrink_law g1 g2
   refine ⟨root, id :: drp, k', ids', .one (x := { c with key := [] }) h1 h2 h3 q1, by omega, q3, by rw [h7, q4]; rfl, q5, fun f g l hl => ?_⟩
   rw [q6 f g l hl, (meas_up (f := f) (g := g) (k := k) h1 h2 h3).2 l (by omega)]
   show _ = meas f g M k c.page l + 0
   omega
  ·have hlen : 2 ≤ (headKey [] (c :: L)).length := by
    have := List.length_pos_iff.2 hL
    simp [headKey]
    omega
   exact ⟨id, [], k + 1, ids, .wide h1 h2 h3 hlen, Nat.le_refl _, h', rfl, .inr (by rw [kidsAt_of h1 h2 h3]; exact hlen), fun _ _ _ _ => rfl⟩
end Go.Ev

namespace Go.Ev
open Go.Lib
def FinG (M : Store) (kids : List Child) (root : Int) (M' : Store) (new : List Int) : Prop :=
  (kids = [] ∧ M root = none ∧ 2 ≤ root ∧ root ≤ 100000 ∧ M' = updS M root (some ⟨2, 0, []⟩) ∧ new = [root]) ∨ (∃ c, kids = [c] ∧ root = c.page ∧ M' = M ∧ new = []) ∨ ∃ c1 c2, kids = [c1, c2] ∧ Laid M c1.key (headKey [] kids) [⟨c1.key, root⟩] M' new
def EndG (M1 : Store) (kids0 : List Child) (G : List (Int × Nat × List Child)) (root : Int) (M' : Store) (new drp : List Int) : Prop :=
  (G = [] ∧ drp = [] ∧ FinG M1 kids0 root M' new) ∨
  ∃ pre s M2 kids1 new1 c, G = pre ++ [s] ∧ UpsG M1 kids0 pre M2 kids1 new1 ∧ s.2.2[s.2.1]? = some c ∧
    ((∃ x, allC s.2.2 s.2.1 c kids1 = [x] ∧ Shrink M2 x.page root drp ∧ M' = M2 ∧ new = new1) ∨
     (∃ M3 kids2 new2 new3, (allC s.2.2 s.2.1 c kids1).length ≠ 1 ∧ LaidG M2 (allC s.2.2 s.2.1 c kids1) kids2 M3 new2 ∧ FinG M3 kids2 root M' new3 ∧ new = new1 ++ new2 ++ new3 ∧ drp = []))
theorem fin_law {M M' : Store} {j : Nat} {kids : List Child} {root : Int} {new3 : List Int} {Q : List Pair} {idk : List Int} (hs : Seg (Sub M 1 j) (headKey [] kids) none Q idk) (hk : KidsG kids) (hone : ∀ c, kids = [c] → j = 0 ∨ 2 ≤ (kidsAt M c.page).length) (h : FinG M kids root M' new3) :
    Grow M M' new3 ∧ ∃ k' ids', TopAt M' k' root Q ids' ∧ ids'.Perm (idk ++ new3) ∧ (k' ≤ j ∨ (kids.length = 2 ∧ k' = j + 1)) ∧
      ∀ l, (l ≤ j → meas potI potB M' k' root l ≤ measL potI potB M j kids l ∧ meas (fun _ => 1) (fun _ => 1) M' k' root l ≤ max 1 (measL (fun _ => 1) (fun _ => 1) M j kids l)) ∧ (j < l → meas potI potB M' k' root l = 0 ∧ meas (fun _ => 1) (fun _ => 1) M' k' root l ≤ 1) := by
  rcases h with ⟨rfl, h1, h2, h3, rfl, rfl⟩ | ⟨c, rfl, rfl, rfl, rfl⟩ | ⟨c1, c2, rfl, h⟩
  · obtain ⟨rfl, rfl⟩ := hs
    have hr : updS M root (some ⟨2, 0, []⟩) root = some ⟨2, 0, layI []⟩ := by unfold updS; simp [layI]
    have hit := itemsAt_of (l := []) hr (by rfl) (by simp [layI])
    refine ⟨Grow.one h1, 0, [root], ⟨⟨[], [], hr, rfl, by simp [layI], ⟨rfl, rfl⟩, rfl, fun q hq => by cases hq⟩, .inl rfl⟩, by simp, .inl (by omega), fun l => ⟨fun hl => ?_, fun hl => ?_⟩⟩
    · by_cases h0 : l = 0
      · subst h0
        simp only [meas, if_true, hit]
        have e0 : potI [] = 0 := rfl
        rw [e0]
        exact ⟨Nat.zero_le _, by omega⟩
      · rw [meas_above (by omega), meas_above (by omega)]
        exact ⟨Nat.zero_le _, Nat.zero_le _⟩
    · rw [meas_above (by omega), meas_above (by omega)]
      exact ⟨rfl, Nat.zero_le _⟩
  · obtain ⟨p1, p2, i1, i2, rfl, rfl, ⟨g1, g2⟩, rfl, rfl⟩ := hs
    refine ⟨Grow.refl _, j, i1, ⟨by rw [List.append_nil]; exact g1, hone c rfl⟩, by simp, .inl (Nat.le_refl _), fun l => ⟨fun hl => ?_, fun hl => ?_⟩⟩
    · exact ⟨Nat.le_refl _, by show meas _ _ _ _ _ _ ≤ max 1 (meas _ _ _ _ _ _ + 0); omega⟩
    · rw [meas_above hl, meas_above hl]
      exact ⟨rfl, Nat.zero_le _⟩
  · have hf1 := hk.fit c1 (by simp)
    have hf2 := hk.fit c2 (by simp)
    have hs0 := hs
    obtain ⟨p1, pr, i1, ir, rfl, rfl, ⟨g1, g2⟩, ⟨p2, p3, i2, i3, rfl, rfl, ⟨g3, g4⟩, rfl, rfl⟩⟩ := hs
    have hk2 : c2.key ≠ [] := by
      intro e
      obtain ⟨q, hq⟩ := List.exists_mem_of_ne_nil _ g2
      have := (g1.inR q hq).2 c2.key rfl
      rw [e, lessB_nil] at this
      cases this
    have hfit := two_fit hf1 hf2 hk2
    rcases h.rekey with ⟨i, h1, h2, h3, h4, h5, rfl, rfl⟩ | ⟨z, ra, y, rb, j1, j2, h1, h2, h3, h4, h5, h6, h7, h8, h9, _⟩
    · simp only [headKey, List.cons.injEq, Child.mk.injEq, true_and, and_true] at h5
      subst h5
      have hg : Grow M (updS M root (some ⟨3, 0, layC (headKey [] [c1, c2])⟩)) [root] := Grow.one h2
      have hr : updS M root (some ⟨3, 0, layC (headKey [] [c1, c2])⟩) root = some ⟨3, 0, layC (headKey [] [c1, c2])⟩ := by unfold updS; simp
      have hm : ∀ (f : List Item → Nat) (g : List Child → Nat), _ := fun f g => meas_up (f := f) (g := g) (k := j) hr hfit.right h1
      refine ⟨hg, j + 1, root :: (i1 ++ (i2 ++ [])), ⟨⟨{ c1 with key := [] }, [c2], _, hr, hfit.right, h1, by simp, rfl, seg_same hs0 hg, rfl⟩, .inr (by rw [kidsAt_of hr hfit.right h1]; simp [headKey])⟩, ?_, .inr ⟨rfl, rfl⟩, fun l => ⟨fun hl => ?_, fun hl => ?_⟩⟩
      · rw [List.perm_iff_count]
        intro a
        simp only [List.count_append, List.count_cons, List.count_nil]
        omega
      · rw [(hm _ _).2 l hl, (hm _ _).2 l hl, measL_head, measL_head]
        have e : ∀ (f : List Item → Nat) (g : List Child → Nat), measL f g (updS M root (some ⟨3, 0, layC (headKey [] [c1, c2])⟩)) j [c1, c2] l = measL f g M j [c1, c2] l := fun f g => by
          have := seg_meas (f := f) (g := g) hs0 (hg.sameOn (seg_there hs0)) l
          rw [measL_head, measL_head] at this
          exact this
        rw [e, e]
        exact ⟨Nat.le_refl _, by omega⟩
      · by_cases hlj : l = j + 1
        · subst hlj
          rw [(hm _ _).1, (hm _ _).1]
          refine ⟨?_, Nat.le_refl _⟩
          have h51 := (vlen_le hf2).1
          have h51' := (vlen_le hf1).1
          have hle := vsz_head_le (L := [c1, c2]) hk.fit
          simp only [vsz] at hle
          unfold potB
          omega
        · rw [meas_above (by omega), meas_above (by omega)]
          exact ⟨rfl, Nat.zero_le _⟩
    · simp [headKey] at h9
structure Hist (M : Store) (k : Nat) (root : Int) (S : Nat → Nat) (n : Nat) : Prop where
  pot0 : meas potI potB M k root 0 + 68 * S 0 ≤ 104 * n
  potl : ∀ l, meas potI potB M k root (l + 1) + 94 * S (l + 1) ≤ 51 * S l
  cnt : ∀ l, meas (fun _ => 1) (fun _ => 1) M k root l ≤ 1 + S l
  top : ∀ l, l < k → 1 ≤ S l
theorem Hist.high {M : Store} {k : Nat} {root : Int} {S : Nat → Nat} {n : Nat} (h : Hist M k root S n) (hn : n ≤ 250) : k ≤ 10 := by
  have h0 := h.pot0
  have h1 : meas potI potB M k root 1 + 94 * S 1 ≤ 51 * S 0 := h.potl 0
  have h2 : meas potI potB M k root 2 + 94 * S 2 ≤ 51 * S 1 := h.potl 1
  have h3 : meas potI potB M k root 3 + 94 * S 3 ≤ 51 * S 2 := h.potl 2
  have h4 : meas potI potB M k root 4 + 94 * S 4 ≤ 51 * S 3 := h.potl 3
  have h5 : meas potI potB M k root 5 + 94 * S 5 ≤ 51 * S 4 := h.potl 4
  have h6 : meas potI potB M k root 6 + 94 * S 6 ≤ 51 * S 5 := h.potl 5
  have h7 : meas potI potB M k root 7 + 94 * S 7 ≤ 51 * S 6 := h.potl 6
  have h8 : meas potI potB M k root 8 + 94 * S 8 ≤ 51 * S 7 := h.potl 7
  have h9 : meas potI potB M k root 9 + 94 * S 9 ≤ 51 * S 8 := h.potl 8
  have h10 : meas potI potB M k root 10 + 94 * S 10 ≤ 51 * S 9 := h.potl 9
  apply Decidable.byContradiction
  intro hk
  have := h.top 10 (by omega)
  omega
theorem Hist.new {M : Store} {root : Int} (h : M root = some ⟨2, 0, []⟩) : Hist M 0 root (fun _ => 0) 0 := by
  have hit : itemsAt M root = [] := itemsAt_of (M := M) (id := root) (l := []) h rfl (by simp [layI])
  refine ⟨?_, fun l => ?_, fun l => ?_, fun l hl => absurd hl (Nat.not_lt_zero _)⟩
  · simp only [meas, if_true, hit]
    have e0 : potI [] = 0 := rfl
    rw [e0]
    omega
  · rw [meas_above (by omega)]; omega
  · by_cases h0 : l = 0
    · subst h0; simp [meas]
    · rw [meas_above (by omega)]; omega
def EndFitG (M1 : Store) (kids0 : List Child) (G : List (Int × Nat × List Child)) : Prop := ∀ M2 kids1 new, UpsG M1 kids0 G M2 kids1 new → KidsG kids1 ∧ (2 ≤ kids1.length → FitP (headKey [] kids1))
def ShrFit (k : Nat) (M1 : Store) (kids0 : List Child) (G : List (Int × Nat × List Child)) : Prop :=
  ∀ pre s M2 kids1 new c y, G = pre ++ [s] → UpsG M1 kids0 pre M2 kids1 new → s.2.2[s.2.1]? = some c → allC s.2.2 s.2.1 c kids1 = [y] → ∃ root drp, Shrink M2 y.page root drp ∧ drp.length ≤ k
def FitsG (k : Nat) (M1 : Store) (kids0 : List Child) (G : List (Int × Nat × List Child)) : Prop := AllFitG M1 kids0 G ∧ EndFitG M1 kids0 G ∧ ShrFit k M1 kids0 G
theorem Shrink.len {M : Store} {id root : Int} {drp : List Int} (h : Shrink M id root drp) : ∀ {k : Nat} {lo : Bytes} {hi : Option Bytes} {ps : List Pair} {ids : List Int}, TreeAt M 1 k id lo hi ps ids → drp.length ≤ k := by
  induction h with
  | leaf => intros; simp
  | wide => intros; simp
  | one h1 h2 h3 _ ih =>
    intro k lo hi ps ids ht
    cases k with
    | zero => obtain ⟨items, i2, g1, _⟩ := ht; rw [h1] at g1; simp at g1
    | succ k =>
      obtain ⟨c, L, i2, g1, g2, g3, g4, g5, ⟨p1, p2, i1, i3, e1, e2, ⟨e3, _⟩, _⟩, g7⟩ := ht
      rw [h1] at g1
      simp only [Option.some.injEq, Pg.mk.injEq, true_and] at g1
      have := layC_inj h2 g2 h3 g1
      simp only [headKey, List.cons.injEq] at this
      have hx := this.1
      rw [hx] at ih
      have := ih e3
      simp only [List.length_cons]
      omega
theorem root_law {M : Store} {key : Bytes} {lid : Int} {items : List Item} {F : List Pair → List Pair} (hF0 : TurnAt key F) {k : Nat} {root0 : Int} {P : List (Int × Nat × List Child)} {ps : List Pair} {ids : List Int} {S : Nat → Nat} {n : Nat}
    (ht : TopAt M k root0 ps ids) (hh : Hist M k root0 S n) (hw : Trail M key root0 P lid items) :
    ∃ lo' hi' ps' ids', TreeAt M 1 0 lid lo' hi' ps' ids' ∧ inR lo' hi' key ∧ (∀ x ∈ ids', x ∈ ids) ∧ (∀ q ∈ ps', q ∈ ps) ∧ (∀ x, getP key ps = some x ↔ getP key ps' = some x) ∧ ∀ M1 kids0 new0 gone m s0, Grow M M1 new0 → KidsG kids0 → MeasG M M1 0 lid kids0 (104 * m) s0 →
      (∃ idl, Seg (Sub M1 1 0) (headKey lo' kids0) hi' (F ps') idl ∧ (idl ++ gone).Perm (ids' ++ new0)) → FitsG k M1 kids0 P.reverse ∧ ∀ root M' new drp, EndG M1 kids0 P.reverse root M' new drp → Grow M M' (new0 ++ new) ∧
        ∃ k' ids' S', TopAt M' k' root (F ps) ids' ∧ Hist M' k' root S' (n + m) ∧ (ids' ++ drp ++ gone ++ P.reverse.map (·.1)).Perm (ids ++ new0 ++ new) := by
  obtain ⟨lo', hi', ps', ids', t1, t2, t3, t4, t4', t5, t6⟩ := ups_lawG hF0 ht.tree ⟨lessB_nil _, fun u hu => by cases hu⟩ hw
  refine ⟨lo', hi', ps', ids', t1, t2, t4, t4', t5, fun M1 kids0 new0 gone m s0 hg hk hm hl => ?_⟩
  obtain ⟨u1, u2, u3⟩ := t6 M1 kids0 new0 gone (104 * m) s0 hg hk hm hl
  have u4 : EndFitG M1 kids0 P.reverse := fun M2 kids1 new hu => by
    obtain ⟨v1, v2, idk, v3, v4, v5⟩ := u2 M2 kids1 new hu
    refine ⟨v2, fun h2 => ?_⟩
    obtain ⟨c1, c2, rfl⟩ : ∃ c1 c2, kids1 = [c1, c2] := by
      have h3 := v2.two
      cases kids1 with
      | nil => simp at h2
      | cons c1 l =>
        cases l with
        | nil => simp at h2
        | cons c2 l =>
          cases l with
          | nil => exact ⟨c1, c2, rfl⟩
          | cons => simp at h3
    obtain ⟨p1, pr, i1, ir, _, _, ⟨g1, g2⟩, _⟩ := v3
    have hk2 : c2.key ≠ [] := by
      intro e
      obtain ⟨q, hq⟩ := List.exists_mem_of_ne_nil _ g2
      have := (g1.inR q hq).2 c2.key rfl
      rw [e, lessB_nil] at this
      cases this
    exact two_fit (v2.fit c1 (by simp)) (v2.fit c2 (by simp)) hk2
  have u5 : ShrFit k M1 kids0 P.reverse := fun pre st M2 kids1 new c y hG h1 h2 e1 => by
    obtain ⟨r1, r2, j, R, idf, rfl, r4, r5, r6, _⟩ := u3 pre st M2 kids1 new c hG h1 h2
    rw [e1] at r4
    obtain ⟨r, hR⟩ : ∃ r, R = [r] := by
      cases R with
      | nil => simp [headKey] at r4
      | cons r L =>
        simp only [headKey, List.cons.injEq] at r4
        exact ⟨r, by rw [r4.2]⟩
    subst hR
    simp only [headKey, List.cons.injEq, and_true] at r4
    have hx : y.page = r.page := by rw [r4]
    obtain ⟨p1, p2, i1, i2, g1, g2, ⟨g3, g4⟩, g5, g6⟩ := r6
    obtain ⟨root', drp', k', ids'', q1, q2, _⟩ := shrink_law g3 g4
    exact ⟨root', drp', by rw [hx]; exact q1, Nat.le_trans (q1.len g3) (Nat.le_succ _)⟩
  refine ⟨⟨u1, u4, u5⟩, fun root M' new drp he => ?_⟩
  -- what a finish leaves
  have hfin : ∀ {M2 : Store} {kids2 : List Child} {new2 new3 idk : List Int} (_ : Grow M M2 (new0 ++ new2)) (_ : KidsG kids2) (_ : Seg (Sub M2 1 k) (headKey [] kids2) none (F ps) idk) (_ : (idk ++ gone ++ P.reverse.map (fun z : Int × Nat × List Child => z.1)).Perm (ids ++ new0 ++ new2)) (_ : MeasG M M2 k root0 kids2 (104 * m) s0) (_ : ∀ c, kids2 = [c] → k = 0 ∨ 2 ≤ (kidsAt M2 c.page).length) (_ : FinG M2 kids2 root M' new3),
      Grow M M' (new0 ++ (new2 ++ new3)) ∧ ∃ k' ids' S', TopAt M' k' root (F ps) ids' ∧ Hist M' k' root S' (n + m) ∧ (ids' ++ [] ++ gone ++ P.reverse.map (fun z : Int × Nat × List Child => z.1)).Perm (ids ++ new0 ++ (new2 ++ new3)) := by
    intro M2 kids2 new2 new3 idk v1 v2 v3 v4 v5 v6 v7
    obtain ⟨s, b1, b2, b3, b4, b5⟩ := v5
    obtain ⟨f1, k', ids', f2, f3, f4, f5⟩ := fin_law v3 v2 v6 v7
    refine ⟨by rw [← List.append_assoc]; exact v1.trans f1, k', ids', fun l => S l + (if l ≤ k then s l else 0), f2, ⟨?_, fun l => ?_, fun l => ?_, fun l hl => ?_⟩, ?_⟩
    · have q1 := ((f5 0).1 (Nat.zero_le _)).1
      have q2 := hh.pot0
      simp only [Nat.zero_le, if_true, b1]
      omega
    · have q2 := hh.potl l
      by_cases hlk : l + 1 ≤ k
      · have q1 := ((f5 (l + 1)).1 hlk).1
        have q3 := b4 l (by omega)
        rw [if_pos hlk, if_pos (by omega)]
        omega
      · have q1 := ((f5 (l + 1)).2 (by omega)).1
        rw [if_neg hlk, q1]
        omega
    · have q2 := hh.cnt l
      by_cases hlk : l ≤ k
      · have q1 := ((f5 l).1 hlk).2
        have q3 := b5 l hlk
        rw [if_pos hlk]
        omega
      · have q1 := ((f5 l).2 (by omega)).2
        omega
    · rcases f4 with f4 | ⟨f4, f6⟩
      · have := hh.top l (by omega)
        omega
      · by_cases hlk : l < k
        · have := hh.top l hlk
          omega
        · have : l = k := by omega
          subst this
          rw [if_pos (Nat.le_refl _)]
          omega
    · rw [List.perm_iff_count] at v4 f3 ⊢
      intro a
      have q1 := v4 a
      have q2 := f3 a
      simp only [List.count_append, List.count_nil] at q1 q2 ⊢
      omega
  rcases he with ⟨hG, rfl, he⟩ | ⟨pre, st, M2, kids1, new1, c, hG, h1, h2, h3⟩
  · have hk0 : k = 0 := by
      cases hw with
      | leaf g1 =>
        cases k with
        | zero => rfl
        | succ k => obtain ⟨c, L, i2, g2, _⟩ := ht.tree; rw [g1] at g2; simp at g2
      | branch => simp at hG
    obtain ⟨v1, v2, idk, v3, v4, v5⟩ := u2 M1 kids0 [] (by rw [hG]; exact .nil)
    have := hfin v1 v2 v3 v4 v5 (fun _ _ => .inl hk0) he
    simpa using this
  · rcases h3 with ⟨x, e1, e2, rfl, rfl⟩ | ⟨M3, kids2, new2, new3, e1, e2, e3, rfl, rfl⟩
    · obtain ⟨r1, r2, j, R, idf, rfl, r4, r5, r6, r7, s', r8, r9, r10, r11⟩ := u3 pre st M' kids1 new c hG h1 h2
      rw [e1] at r4
      obtain ⟨r, hR⟩ : ∃ r, R = [r] := by
        cases R with
        | nil => simp [headKey] at r4
        | cons r L =>
          simp only [headKey, List.cons.injEq] at r4
          exact ⟨r, by rw [r4.2]⟩
      subst hR
      simp only [headKey, List.cons.injEq, and_true] at r4
      have hx : x.page = r.page := by rw [r4]
      have hrk := r5 r [] rfl
      obtain ⟨p1, p2, i1, i2, g1, g2, ⟨g3, g4⟩, g5, g6⟩ := r6
      subst g5 g6
      rw [List.append_nil] at g1 g2
      subst g2
      rw [← g1, hrk] at g3
      obtain ⟨root', drp', k', ids'', q1, q2, q3, q4, q5, q6⟩ := shrink_law g3 (by rw [← g1] at g4; exact g4)
      rw [hx] at e2
      obtain ⟨rfl, rfl⟩ := e2.det q1
      have e0 : ∀ (f : List Item → Nat) (g : List Child → Nat) l, measL f g M' j [r] l = meas f g M' j r.page l := fun f g l => by show meas f g M' j r.page l + 0 = _; omega
      refine ⟨r2, k', ids'', fun l => S l + (if l ≤ j then s' l else 0), ⟨q3, q5⟩, ⟨?_, fun l => ?_, fun l => ?_, fun l hl => ?_⟩, ?_⟩
      · have p1 := q6 potI potB 0 (Nat.zero_le _)
        have p2 := hh.pot0
        rw [e0] at r9
        simp only [Nat.zero_le, if_true, r8]
        omega
      · have p2 := hh.potl l
        by_cases hlk : l + 1 ≤ j
        · have p3 := r10 l (by omega)
          rw [e0] at p3
          rw [if_pos hlk, if_pos (by omega)]
          by_cases hlk' : l + 1 ≤ k'
          · have p1 := q6 potI potB (l + 1) hlk'
            omega
          · rw [meas_above (by omega)]
            omega
        · rw [if_neg hlk, meas_above (by omega)]
          omega
      · have p2 := hh.cnt l
        by_cases hlk : l ≤ k'
        · have p1 := q6 (fun _ => 1) (fun _ => 1) l hlk
          have p3 := r11 l (by omega)
          rw [e0] at p3
          rw [if_pos (by omega)]
          omega
        · rw [meas_above (by omega)]
          omega
      · have := hh.top l (by omega)
        omega
      · rw [hG, List.map_append]
        rw [List.perm_iff_count] at r7 ⊢
        intro a
        have p1 := r7 a
        rw [q4] at p1
        simp only [List.count_append, List.map_cons, List.map_nil, r1] at p1 ⊢
        omega
    · obtain ⟨v1, v2, idk, v3, v4, v5⟩ := u2 M3 kids2 (new1 ++ new2) (by rw [hG]; obtain ⟨id, i, L⟩ := st; exact .snoc h1 h2 e2)
      refine hfin v1 v2 v3 v4 v5 (fun c' hc' => .inr ?_) e3
      rcases e2 with ⟨_, e5, _⟩ | ⟨e4, e5⟩
      · rw [hc'] at e5; cases e5
      · have hlen : 2 ≤ (allC st.2.2 st.2.1 c kids1).length := by
          have := List.length_pos_iff.2 e4
          omega
        obtain ⟨w1, w2⟩ := u1 pre st [] M2 kids1 new1 hG h1 c h2
        have hf := w2 e4
        rcases e5 with ⟨i, h5, h6, h7, h8, rfl, rfl, rfl⟩ | ⟨z, ra, y, rb, j1, j2, h5, h6, h7, h8, h9, h10, h11, h12, rfl, _⟩
        · simp only [List.cons.injEq, and_true] at hc'
          subst hc'
          rw [kidsAt_of (by unfold updS; simp) hf.right h5]
          exact hlen
        · simp at hc'
end Go.Ev

namespace Go.Ev
open Go.RowKit
variable {F : Fence} {n : Nat} {P : Program}
def EachS {α : Type} (F : Fence) (n : Nat) (P : Program) (g : Nat) (lb : Array Value) (encs : α → Array Value) (Kp : World → World → Prop) (xs : List α) (w : World) : Prop :=
 ∀ (l : Nat) (J Jx : Nat → World → Prop) (W : World), Below w.heap.size w W →
  (∀ (k : Nat) (x : α) (W1 : World), xs[k]? = some x → J k W1 → YieldAt F (n - 1) P l (encs x) W1 fun e W' => (e = .returned (.bool true) ∧ J (k + 1) W' ∧ Kp W1 W') ∨ (e = .returned (.bool false) ∧ Jx (k + 1) W')) →
  J 0 W → CallsIn F n P g (#[.func (.yield l) #[] #[]] ++ lb) W fun e W' => (∃ v, e = .returned v) ∧ (J xs.length W' ∨ ∃ k, k ≤ xs.length ∧ Jx k W')
def goesOnS (B : Nat) (Kp : World → World → Prop) (I Ix : World → Prop) (W : World) : Exit → Act → World → Prop
 | .normal, _, W' => KeepsFrom B W W' ∧ Kp W W' ∧ I W'
 | .ret, _, W' => KeepsFrom B W W' ∧ Ix W'
 | _, _, _ => False
theorem rangeFunc_eachS {α : Type} {g : Operand} {ps : Array Tmp} {assign body : Code} {Q : Exit → Act → World → Prop} {a : Act} {w : World} {gf : Nat} {lb : Array Value} {encs : α → Array Value} {Kp : World → World → Prop} {xs : List α}
  (hro : F.round = none) (h1 : 1 ≤ n) (hg : a.eval g = .func (.func gf) #[] lb) (hF : F.fn gf) (eg : ∀ args w, (callFunc gf args).run P w = .ok (.enter gf args) w) (hseq : EachS F (n - 1) P gf lb encs Kp xs w)
  (hKt : ∀ {A B C : World}, Kp A B → Kp B C → Kp A C) (hKb : ∀ (W : World) (l : Nat) (o o' : Obj), w.heap.size ≤ l → W.heap[l]? = some o → o.isCells = false → o.isWalk = false → Kp W (W.putObj l o')) (hps : ∀ x, (encs x).size = ps.size)
  (I Ix : Nat → World → Prop) (hI : OwnFrom w.heap.size I) (hIx : OwnFrom w.heap.size Ix) (h0 : I 0 w) (Ax : α → Act → World → Prop) (hAx : ∀ x a', OwnFrom w.heap.size (fun (_ : Unit) W => Ax x a' W))
  (hassign : ∀ (l k : Nat) (x : α) (W : World) (K : Act → World → Prop), xs[k]? = some x → I k W → (∀ a' W', KeepsFrom w.heap.size W W' → Kp W W' → I k W' → Ax x a' W' → K a' W') →
   assign.wpIn (F.inRound l) (n - 1 - 1) P (Exit.then K (fun _ _ _ => False)) { tmps := (ps.zip (encs x)).foldl (fun t (p, v) => t.setIfInBounds p v) a.tmps, defers := [] } W)
  (hbody : ∀ (l k : Nat) (x : α) (a' : Act) (W : World), xs[k]? = some x → I k W → Ax x a' W → body.wpIn (F.inRound l) (n - 1 - 1) P (goesOnS w.heap.size Kp (I (k + 1)) (Ix (k + 1)) W) a' W)
  (hdone : ∀ (D : Nat) (W : World), w.heap.size ≤ D → I xs.length W → W.heap[D]? = some (.deferred (some [])) → Q .normal { a with defers := { target := .collected D, args := #[] } :: a.defers } W)
  (hstop : ∀ (D k : Nat) (W : World), w.heap.size ≤ D → k ≤ xs.length → Ix k W → W.heap[D]? = some (.deferred (some [])) → Code.ret.wpIn F n P Q { a with defers := { target := .collected D, args := #[] } :: a.defers } W) :
  (Code.rangeFunc g ps assign body).wpIn F n P Q a w := by
 refine wpIn_rangeFunc fun fn hfn => ?_
 rw [hro]
 -- the loop's record in its states; the block of the deferred calls is D, the record's is D + 1
 obtain ⟨D, hD⟩ : ∃ D, D = w.heap.size := ⟨_, rfl⟩
 obtain ⟨R0, hR0⟩ : ∃ R0 : LoopState → Option Code → Loop, R0 = fun st pe => { state := st, pending := pe, fn, tmps := a.tmps, params := ps, assign, body, defers := D } := ⟨_, rfl⟩
 obtain ⟨R, hR⟩ : ∃ R : LoopState → Loop, R = fun st => R0 st none := ⟨_, rfl⟩
 rw [hR0] at hR
 obtain ⟨W1, hW1⟩ : ∃ W1, (w.alloc (.deferred (some []))).alloc (.loop (R .ready)) = W1 := ⟨_, rfl⟩
 have hl1 : W1.heap[D + 1]? = some (.loop (R .ready)) := by
  have := World.alloc_heap_new (w.alloc (.deferred (some []))) (.loop (R .ready))
  rw [World.size_alloc, hW1] at this
  rw [hD]; exact this
 have hd1 : W1.heap[D]? = some (.deferred (some [])) := by
  rw [← hW1, hD]; exact (Below.heap_alloc _ _ _ (by simp)).trans (World.alloc_heap_new w _)
 have hi1 : I 0 W1 := by rw [← hW1]; exact hI.alloc _ (hI.alloc _ h0)
 have hb1 : Below w.heap.size w W1 := by rw [← hW1]; exact ((Below.refl _ w).alloc (Nat.le_refl _) _).alloc (by simp) _
 refine ⟨D + 1, [{ target := .collected D, args := #[] }], W1, { target := .fn (.func gf) lb, args := #[.func (.yield (D + 1)) #[] #[]] }, W1, gf, #[.func (.yield (D + 1)) #[] #[]] ++ lb, W1, ?_, ?_, ?_, ?_, fun _ => h1, ?_⟩
 ·rw [← hW1, hR, hD]; exact run_enterLoop_outer _ _ _ _ _
 ·simp only [resolve, hg]
  simp [go_sem]
 ·intro f' hf'; simp [Target.leads] at hf'; subst hf'; exact hF
 ·simp [invoke, go_sem, eg]
 refine (hseq (D + 1) (fun k W => I k W ∧ W.heap[D + 1]? = some (.loop (R .ready)) ∧ W.heap[D]? = some (.deferred (some []))) (fun k W => Ix k W ∧ W.heap[D + 1]? = some (.loop (R0 .done (some .ret))) ∧ W.heap[D]? = some (.deferred (some []))) W1 hb1 ?_ ⟨hi1, hl1, hd1⟩).mono ?_
 ·-- a round
  rintro k x W hx ⟨hi, hl, hd⟩
  have hy := run_yield (P := P) (args := encs x) hl (by rw [hR]; exact hps x)
  rw [hR] at hy
  refine ⟨fn, _, assign, body, hy, roundIn_of_wpIn hfn (hassign _ k x W _ hx hi ?_)⟩
  intro a' Wa hka hpa hia hax
  have hla := hka.same _ _ (by omega) hl rfl
  have hda := hka.same _ _ (by omega) hd rfl
  have hlta : D + 1 < Wa.heap.size := (Array.getElem?_eq_some_iff.1 hla).1
  refine ⟨_, run_beginRound hla (by rw [hR]), ?_⟩
  have hlb : (Wa.putObj (D + 1) (.loop { R .ready with state := .busy })).heap[D + 1]? = some (.loop { R .ready with state := .busy }) := World.putObj_heap_same hlta
  have hdb : (Wa.putObj (D + 1) (.loop { R .ready with state := .busy })).heap[D]? = some (.deferred (some [])) := (World.putObj_heap_other (by omega)).trans hda
  have hpb : Kp Wa (Wa.putObj (D + 1) (.loop { R .ready with state := .busy })) := hKb _ _ _ _ (by omega) hla rfl rfl
  refine wpIn_mono (hbody _ k x a' _ hx (hI.putObj _ hia (by omega) hla rfl) ((hAx x a').putObj (s := ()) _ hax (by omega) hla rfl)) ?_
  rintro e a3 W3 hp
  cases e with
  | normal =>
   obtain ⟨hk3, hp3, hi3⟩ := hp
   have hl3 := hk3.same _ _ (by omega) hlb rfl
   have hd3 := hk3.same _ _ (by omega) hdb rfl
   have hr := run_endRound (P := P) none hl3
   rw [hR] at hr hl3
   refine ⟨_, _, hr, .inl ⟨rfl, ⟨hI.putObj _ hi3 (by omega) hl3 rfl, ?_, (World.putObj_heap_other (by omega)).trans hd3⟩, hKt hpa (hKt (hKt hpb hp3) (hKb _ _ _ _ (by omega) hl3 rfl rfl))⟩⟩
   rw [World.putObj_heap_same (Array.getElem?_eq_some_iff.1 hl3).1, hR]
   rfl
  | ret =>
   obtain ⟨hk3, hi3⟩ := hp
   have hl3 := hk3.same _ _ (by omega) hlb rfl
   have hd3 := hk3.same _ _ (by omega) hdb rfl
   have hr := run_endRound (P := P) (some .ret) hl3
   rw [hR] at hr hl3
   refine ⟨_, _, hr, .inr ⟨rfl, hIx.putObj _ hi3 (by omega) hl3 rfl, ?_, (World.putObj_heap_other (by omega)).trans hd3⟩⟩
   rw [World.putObj_heap_same (Array.getElem?_eq_some_iff.1 hl3).1, hR0]
   rfl
  | exit id => exact hp.elim
  | goto t => exact hp.elim
  | panic ch => exact hp.elim
  | outgrown => exact hp.elim
 ·-- behind the iterator
  rintro e W2 ⟨⟨v, rfl⟩, (⟨hi, hl, hd⟩ | ⟨k, hk, hi, hl, hd⟩)⟩
  ·have hr := run_endLoop (P := P) hl (by rw [hR]; simp)
   rw [hR] at hr
   exact ⟨none, _, hr, hdone D _ (by omega) (hI.putObj _ hi (by omega) hl rfl) ((World.putObj_heap_other (by omega)).trans hd)⟩
  ·have hr := run_endLoop (P := P) hl (by rw [hR0]; simp)
   rw [hR0] at hr
   exact ⟨some .ret, _, hr, hstop D k _ (by omega) hk (hIx.putObj _ hi (by omega) hl rfl) ((World.putObj_heap_other (by omega)).trans hd)⟩
end Go.Ev

namespace Go.Ev
open Go.Lib
def lsum (f : Nat → Nat) : Nat → Nat
 | 0 => 0
 | n + 1 => lsum f n + f n
theorem lsum_add (f g : Nat → Nat) : ∀ n, lsum (fun l => f l + g l) n = lsum f n + lsum g n
 | 0 => rfl
 | n + 1 => by simp only [lsum, lsum_add f g n]; omega
theorem lsum_congr {f g : Nat → Nat} : ∀ {n : Nat}, (∀ l, l < n → f l = g l) → lsum f n = lsum g n
 | 0, _ => rfl
 | n + 1, h => by
  simp only [lsum]
  rw [lsum_congr fun l hl => h l (by omega), h n (by omega)]
theorem lsum_le {f g : Nat → Nat} : ∀ {n : Nat}, (∀ l, l < n → f l ≤ g l) → lsum f n ≤ lsum g n
 | 0, _ => Nat.le_refl _
 | n + 1, h => by
  simp only [lsum]
  have := lsum_le (n := n) fun l hl => h l (by omega)
  have := h n (by omega)
  omega
def sumV : List Pair → Nat
 | [] => 0
 | q :: ps => q.2.length + sumV ps
theorem sumV_app : ∀ a b : List Pair, sumV (a ++ b) = sumV a + sumV b
 | [], b => by simp [sumV]
 | q :: a, b => by simp only [List.cons_append, sumV, sumV_app a b]; omega
theorem val_pages {M : Store} {x : Item} {v : Bytes} {ids : List Int} (h : ValAt M x v ids) : 240 * ids.length ≤ v.length + 239 := by
 rcases h with ⟨_, _, rfl⟩ | ⟨_, h, _⟩
 ·simp
 ·exact chain_len h
theorem leaf_pages {M : Store} : ∀ {l : List Item} {ps : List Pair} {ids : List Int}, LeafAt M l ps ids → 240 * ids.length ≤ sumV ps + 239 * ps.length
 | [], _, _, ⟨h1, h2⟩ => by subst h1; subst h2; simp
 | x :: l, _, _, ⟨v, ps', i1, i2, h1, h2, h3, h4⟩ => by
  subst h1; subst h2
  have q1 := val_pages h3
  have q2 := leaf_pages h4
  simp only [List.length_append, List.length_cons, sumV]
  omega
theorem seg_pages {M : Store} {d k : Nat} {hi : Option Bytes} (hT : ∀ id lo hi ps ids, TreeAt M d k id lo hi ps ids → 240 * ids.length ≤ 240 * lsum (fun l => meas (fun _ => 1) (fun _ => 1) M k id l) (k + 1) + sumV ps + 239 * ps.length) :
  ∀ {L : List Child} {ps : List Pair} {ids : List Int}, Seg (Sub M d k) L hi ps ids → 240 * ids.length ≤ 240 * lsum (fun l => measL (fun _ => 1) (fun _ => 1) M k L l) (k + 1) + sumV ps + 239 * ps.length
 | [], _, _, ⟨h1, h2⟩ => by subst h1; subst h2; simp
 | c :: L, _, _, ⟨p1, p2, i1, i2, h1, h2, h3, h4⟩ => by
  subst h1; subst h2
  have q1 := hT _ _ _ _ _ h3.1
  have q2 := seg_pages hT h4
  have e : lsum (fun l => measL (fun _ => 1) (fun _ => 1) M k (c :: L) l) (k + 1) = lsum (fun l => meas (fun _ => 1) (fun _ => 1) M k c.page l) (k + 1) + lsum (fun l => measL (fun _ => 1) (fun _ => 1) M k L l) (k + 1) := by
   rw [← lsum_add]
   rfl
  rw [e, sumV_app, List.length_append, List.length_append]
  omega
theorem tree_pages {M : Store} {d : Nat} : ∀ {k : Nat} {id : Int} {lo : Bytes} {hi : Option Bytes} {ps : List Pair} {ids : List Int}, TreeAt M d k id lo hi ps ids → 240 * ids.length ≤ 240 * lsum (fun l => meas (fun _ => 1) (fun _ => 1) M k id l) (k + 1) + sumV ps + 239 * ps.length
 | 0, id, lo, hi, ps, ids, ⟨items, i2, h1, h2, h3, h4, h5, h6⟩ => by
  have := leaf_pages h4
  have e : lsum (fun l => meas (fun _ => 1) (fun _ => 1) M 0 id l) (0 + 1) = 1 := by simp [lsum, meas]
  rw [e, h5, List.length_cons]
  omega
 | k + 1, id, lo, hi, ps, ids, ⟨c, L, i2, h1, h2, h3, h4, h5, h6, h7⟩ => by
  have q1 := seg_pages (fun id lo hi ps ids h => tree_pages h) h6
  have hm := meas_up (f := fun _ => 1) (g := fun _ => 1) (k := k) h1 h2 h3
  have e : lsum (fun l => meas (fun _ => 1) (fun _ => 1) M (k + 1) id l) (k + 1 + 1) = lsum (fun l => measL (fun _ => 1) (fun _ => 1) M k (c :: L) l) (k + 1) + 1 := by
   rw [lsum, hm.1]
   rw [lsum_congr (g := fun l => measL (fun _ => 1) (fun _ => 1) M k (c :: L) l) fun l hl => by rw [hm.2 l (by omega), measL_head]]
  rw [e, h7, List.length_cons]
  omega
theorem Hist.pages {M : Store} {k : Nat} {root : Int} {S : Nat → Nat} {n : Nat} {ps : List Pair} {ids : List Int} (h : Hist M k root S n) (hn : n ≤ 250) (ht : TopAt M k root ps ids) (hv : sumV ps ≤ 60000) (hp : ps.length ≤ 250) : ids.length ≤ 1337 := by
 have hk := h.high hn
 have hl := tree_pages ht.tree
 have h0 := h.pot0
 have hc : lsum (fun l => meas (fun _ => 1) (fun _ => 1) M k root l) (k + 1) ≤ lsum (fun l => 1 + S l) (k + 1) := lsum_le fun l _ => h.cnt l
 have hmono : ∀ m, lsum (fun l => 1 + S l) (k + 1) ≤ lsum (fun l => 1 + S l) (k + 1 + m) := by
  intro m
  induction m with
  | zero => exact Nat.le_refl _
  | succ m ih => exact Nat.le_trans ih (by rw [← Nat.add_assoc]; simp only [lsum]; omega)
 have h11 : lsum (fun l => 1 + S l) (k + 1) ≤ lsum (fun l => 1 + S l) 11 := by
  have := hmono (10 - k)
  rw [show k + 1 + (10 - k) = 11 by omega] at this
  exact this
 have e11 : lsum (fun l => 1 + S l) 11 = 11 + (S 0 + S 1 + S 2 + S 3 + S 4 + S 5 + S 6 + S 7 + S 8 + S 9 + S 10) := by
  simp only [lsum]
  omega
 have p : ∀ l, 94 * S (l + 1) ≤ 51 * S l := fun l => by have := h.potl l; omega
 have p0 := p 0
 have p1 := p 1
 have p2 := p 2
 have p3 := p 3
 have p4 := p 4
 have p5 := p 5
 have p6 := p 6
 have p7 := p 7
 have p8 := p 8
 have p9 := p 9
 simp only [Nat.zero_add, Nat.reduceAdd] at p0 p1 p2 p3 p4 p5 p6 p7 p8 p9
 omega
end Go.Ev

namespace Go.Ev
open Go.Lib
theorem trail_leaf {M : Store} {key : Bytes} {id lid : Int} {P : List (Int × Nat × List Child)} {items : List Item} (h : Trail M key id P lid items) : M lid = some ⟨2, 0, layI items⟩ ∧ riseI items = true ∧ (layI items).length ≤ 240 := by
 induction h with
 | leaf g1 g2 g3 => exact ⟨g1, g2, g3⟩
 | branch _ _ _ _ _ ih => exact ih
theorem meas0 (f : List Item → Nat) (g : List Child → Nat) (M : Store) (id : Int) : meas f g M 0 id 0 = f (itemsAt M id) := by simp only [meas, if_true]
theorem laidI_meas {M M1 : Store} {l : List Item} {kids : List Child} {new1 : List Int} (hf : FitI l) (h : LaidI M l kids M1 new1) : ∃ s0, kids.length = 1 + s0 ∧ measL potI potB M1 0 kids 0 + 68 * s0 ≤ potI l ∧ measL (fun _ => 1) (fun _ => 1) M1 0 kids 0 = 1 + s0 := by
 rcases h with ⟨i, h1, h2, h3, h4, rfl, rfl, rfl⟩ | ⟨a, y, rb, i1, i2, h1, h2, h3, h4, h5, h6, h7, h8, rfl, rfl, rfl⟩
 ·refine ⟨0, rfl, ?_, by rw [show ∀ S : Store, measL (fun _ => 1) (fun _ => 1) S 0 [⟨[], i⟩] 0 = meas (fun _ => 1) (fun _ => 1) S 0 i 0 + 0 from fun _ => rfl, meas0]⟩
  have hi : updS M i (some ⟨2, 0, layI l⟩) i = some ⟨2, 0, layI l⟩ := by unfold updS; simp
  have e : measL potI potB (updS M i (some ⟨2, 0, layI l⟩)) 0 [⟨[], i⟩] 0 = meas potI potB (updS M i (some ⟨2, 0, layI l⟩)) 0 i 0 + 0 := rfl
  rw [e, meas0, itemsAt_of hi hf.rise h1]
  omega
 ·obtain ⟨_, z', ra', y', rb', e0, r1, r2, r3, r4⟩ := hf.fit.resolve_left (by omega)
  rw [h2] at e0
  simp only [Prod.mk.injEq, List.cons.injEq] at e0
  obtain ⟨rfl, rfl, rfl⟩ := e0
  have happ := splitI_app h2
  have hn12 : i1 ≠ i2 := by
   rintro rfl
   simp [updS] at h6
  have q1 : updS (updS M i1 (some ⟨2, 0, layI (z' :: ra')⟩)) i2 (some ⟨2, 0, layI (y :: rb)⟩) i1 = some ⟨2, 0, layI (z' :: ra')⟩ := by
   unfold updS
   rw [if_neg hn12, if_pos rfl]
  have q2 : updS (updS M i1 (some ⟨2, 0, layI (z' :: ra')⟩)) i2 (some ⟨2, 0, layI (y :: rb)⟩) i2 = some ⟨2, 0, layI (y :: rb)⟩ := by
   unfold updS
   rw [if_pos rfl]
  have hsp := potI_split (riseI_right hf.rise) h1 (by rw [← happ, List.length_append]; simp; omega) h2
  refine ⟨1, rfl, ?_, by rw [show ∀ S : Store, measL (fun _ => 1) (fun _ => 1) S 0 [⟨[], i1⟩, ⟨y.key, i2⟩] 0 = meas (fun _ => 1) (fun _ => 1) S 0 i1 0 + (meas (fun _ => 1) (fun _ => 1) S 0 i2 0 + 0) from fun _ => rfl, meas0, meas0]⟩
  have e : ∀ S : Store, measL potI potB S 0 [⟨[], i1⟩, ⟨y.key, i2⟩] 0 = meas potI potB S 0 i1 0 + (meas potI potB S 0 i2 0 + 0) := fun _ => rfl
  rw [e, meas0, meas0, itemsAt_of q1 r1 r3, itemsAt_of q2 r2 r4]
  omega
theorem put_lawG {M : Store} {k n : Nat} {S : Nat → Nat} {key v : Bytes} {root0 lid : Int} {P : List (Int × Nat × List Child)} {ps : List Pair} {ids : List Int} {items : List Item} (ht : TopAt M k root0 ps ids) (hh : Hist M k root0 S n) (hw : Trail M key root0 P lid items) :
  riseI items = true ∧ (layI items).length ≤ 240 ∧ ∃ ps' old, (∀ q ∈ ps', q ∈ ps) ∧ OldAt M items key ps' old ∧ ∀ (Mc : Store) (x : Item) (newc : List Int), x.key = key → x.right = true → Grow M Mc newc → ValAt Mc x v newc →
   FitI (setI items x) ∧ ∀ kids0 M1 new1, LaidI Mc (setI items x) kids0 M1 new1 → FitsG k M1 kids0 P.reverse ∧ KidsFit kids0 ∧
    ∀ root M' new drp, EndG M1 kids0 P.reverse root M' new drp → Grow M M' (newc ++ new1 ++ new) ∧ ∃ k' ids' S', TopAt M' k' root (insP key v ps) ids' ∧ Hist M' k' root S' (n + 1) ∧ (ids' ++ drp ++ (lid :: old) ++ P.reverse.map (·.1)).Perm (ids ++ (newc ++ new1) ++ new) := by
 obtain ⟨lo', hi', ps', ids', t1, t2, t4, t4', t5, t6⟩ := root_law (TurnAt.ins key v) ht hh hw
 obtain ⟨w1, w2, w3⟩ := trail_leaf hw
 obtain ⟨its, i2, h1, h2, h3, h4, h5, h6⟩ := t1
 have hit : its = items := by
  rw [h1] at w1
  simp only [Option.some.injEq, Pg.mk.injEq, true_and] at w1
  exact layI_inj h2 w2 h3 w1
 subst hit
 obtain ⟨old, q1, q0⟩ := leaf_set (key := key) h2 h4
 refine ⟨h2, h3, ps', old, t4', q1, fun Mc x newc hxk hxr hg hx => ?_⟩
 subst hxk
 obtain ⟨i2', q2, q3⟩ := q0 Mc x v newc rfl hg hx
 have hfit := setI_fit h2 h3 hxr
 refine ⟨hfit, fun kids0 M1 new1 hl => ?_⟩
 have hsne : setI its x ≠ [] := by
  unfold setI; simp
 have hR : ∀ p ∈ insP x.key v ps', inR lo' hi' p.1 := fun p hp => by
  rcases insP_mem hp with rfl | hp
  ·exact t2
  ·exact h6 p hp
 obtain ⟨g1, g2, idk, g3, g4⟩ := hl.tree (d := 1) q2 hsne hfit hR
 obtain ⟨s0, m1, m2, m3⟩ := laidI_meas hfit hl
 have hm : MeasG M M1 0 lid kids0 (104 * 1) s0 := by
  refine ⟨fun _ => s0, rfl, by show kids0.length ≤ 1 + s0; omega, ?_, fun l hl => absurd hl (Nat.not_lt_zero _), fun l hl => ?_⟩
  ·have e : meas potI potB M 0 lid 0 = potI its := by simp only [meas, if_true, itemsAt_of h1 h2 h3]
   rw [e]
   have a1 := layI_set x its
   have a2 := Item.lay_right hxr
   unfold potI at m2 ⊢
   omega
  ·have : l = 0 := by omega
   subst this
   rw [m3]
   show 1 + s0 ≤ 1 + s0
   omega
 obtain ⟨u1, u2⟩ := t6 M1 kids0 (newc ++ new1) (lid :: old) 1 s0 (hg.trans g1) g2.g hm ⟨idk, g3, by
  rw [List.perm_iff_count] at q3 g4 ⊢
  intro a
  have e1 := q3 a
  have e2 := g4 a
  rw [h5]
  simp only [List.count_append, List.count_cons] at e1 e2 ⊢
  omega⟩
 exact ⟨u1, g2, u2⟩
theorem del_lawG {M : Store} {k n : Nat} {S : Nat → Nat} {key : Bytes} {root0 lid : Int} {P : List (Int × Nat × List Child)} {ps : List Pair} {ids : List Int} {items : List Item} (ht : TopAt M k root0 ps ids) (hh : Hist M k root0 S n) (hw : Trail M key root0 P lid items) :
  riseI items = true ∧ (layI items).length ≤ 240 ∧ ∃ ps' old, (∀ q ∈ ps', q ∈ ps) ∧ OldAt M items key ps' old ∧ isAt key items = (getP key ps).isSome ∧ riseI (delI items key) = true ∧ (layI (delI items key)).length ≤ 240 ∧
   ∀ kids0 M1 new1, ((delI items key = [] ∧ kids0 = [] ∧ M1 = M ∧ new1 = []) ∨ (delI items key ≠ [] ∧ LaidI M (delI items key) kids0 M1 new1)) → FitsG k M1 kids0 P.reverse ∧ KidsG kids0 ∧
    ∀ root M' new drp, EndG M1 kids0 P.reverse root M' new drp → Grow M M' (new1 ++ new) ∧ ∃ k' ids' S', TopAt M' k' root (delP key ps) ids' ∧ Hist M' k' root S' n ∧ (ids' ++ drp ++ (lid :: old) ++ P.reverse.map (·.1)).Perm (ids ++ new1 ++ new) := by
 obtain ⟨lo', hi', ps', ids', t1, t2, t4, t4', t5, t6⟩ := root_law (TurnAt.del key) ht hh hw
 obtain ⟨w1, w2, w3⟩ := trail_leaf hw
 obtain ⟨its, i2, h1, h2, h3, h4, h5, h6⟩ := t1
 have hit : its = items := by
  rw [h1] at w1
  simp only [Option.some.injEq, Pg.mk.injEq, true_and] at w1
  exact layI_inj h2 w2 h3 w1
 subst hit
 obtain ⟨old, q1, i2', q2, q3⟩ := leaf_del (key := key) h2 h4
 have hr := delI_rise (k := key) h2
 have hl240 : (layI (delI its key)).length ≤ 240 := Nat.le_trans (layI_del key its) h3
 have hia : isAt key its = (getP key ps).isSome := by
  rw [isAt_get h2 h4]
  cases hq : getP key ps with
  | some x => rw [(t5 x).1 hq]
  | none =>
   cases hq' : getP key ps' with
   | some x => rw [(t5 x).2 hq'] at hq; cases hq
   | none => rfl
 refine ⟨h2, h3, ps', old, t4', q1, hia, hr, hl240, fun kids0 M1 new1 hl => ?_⟩
 have e : meas potI potB M 0 lid 0 = potI its := by simp only [meas, if_true, itemsAt_of h1 h2 h3]
 have key2 : Grow M M1 new1 ∧ KidsG kids0 ∧ MeasG M M1 0 lid kids0 (104 * 0) 0 ∧ ∃ idl, Seg (Sub M1 1 0) (headKey lo' kids0) hi' (delP key ps') idl ∧ (idl ++ (lid :: old)).Perm (ids' ++ new1) := by
  rcases hl with ⟨d1, rfl, rfl, rfl⟩ | ⟨d1, hl⟩
  ·rw [d1] at q2
   obtain ⟨d2, rfl⟩ := q2
   refine ⟨Grow.refl _, ⟨by simp, fun x hx => by cases hx⟩, ⟨fun _ => 0, rfl, by simp, ?_, fun l hl => absurd hl (Nat.not_lt_zero _), fun l hl => Nat.zero_le _⟩, [], ?_, ?_⟩
   ·show 0 + 68 * 0 ≤ _; omega
   ·rw [d2]; exact ⟨rfl, rfl⟩
   ·rw [List.perm_iff_count] at q3 ⊢
    intro a
    have e1 := q3 a
    rw [h5]
    simp only [List.count_append, List.count_cons, List.count_nil] at e1 ⊢
    omega
  ·have hfit : FitI (delI its key) := FitI.of hr (by omega)
   obtain ⟨g1, g2, idk, g3, g4⟩ := hl.tree (d := 1) q2 d1 hfit fun p hp => h6 p (delP_mem hp)
   obtain ⟨s0, m1, m2, m3⟩ := laidI_meas hfit hl
   have hs0 : s0 = 0 := by
    rcases hl with ⟨_, _, _, _, _, rfl, _, _⟩ | ⟨_, _, _, _, _, h, _⟩
    ·simp at m1; omega
    ·omega
   subst hs0
   refine ⟨g1, g2.g, ⟨fun _ => 0, rfl, by show kids0.length ≤ 1 + 0; omega, ?_, fun l hl => absurd hl (Nat.not_lt_zero _), fun l hl => ?_⟩, idk, g3, ?_⟩
   ·rw [e]
    have := layI_del key its
    unfold potI at m2 ⊢
    omega
   ·have : l = 0 := by omega
    subst this
    rw [m3]
    show 1 + 0 ≤ 1 + 0
    omega
   ·rw [List.perm_iff_count] at q3 g4 ⊢
    intro a
    have e1 := q3 a
    have e2 := g4 a
    rw [h5]
    simp only [List.count_append, List.count_cons] at e1 e2 ⊢
    omega
 obtain ⟨g1, g2, hm, hs⟩ := key2
 obtain ⟨u1, u2⟩ := t6 M1 kids0 new1 (lid :: old) 0 0 g1 g2 hm hs
 exact ⟨u1, g2, u2⟩
end Go.Ev

namespace Go.Ev
open Go.Lib
theorem TreeAt.one {M : Store} {d : Nat} (hd : 1 ≤ d) : ∀ {k : Nat} {id : Int} {lo : Bytes} {hi : Option Bytes} {ps : List Pair} {ids : List Int}, TreeAt M d k id lo hi ps ids → TreeAt M 1 k id lo hi ps ids
 | 0, _, _, _, _, _, ⟨items, i2, h1, h2, h3, h4, h5, h6⟩ => ⟨items, i2, h1, h2, h3, h4, h5, h6⟩
 | k + 1, _, _, _, _, _, ⟨c, L, i2, h1, h2, h3, h4, h5, h6, h7⟩ => ⟨c, L, i2, h1, h2, h3, by omega, h5, h6.mono fun _ _ _ _ _ _ ht => ⟨TreeAt.one hd ht.1, ht.2⟩, h7⟩
theorem TopAt.of2 {M : Store} {k : Nat} {root : Int} {ps : List Pair} {ids : List Int} (h : TreeAt M 2 k root [] none ps ids) : TopAt M k root ps ids := by
 refine ⟨h.one (by omega), ?_⟩
 cases k with
 | zero => exact .inl rfl
 | succ k =>
  obtain ⟨c, L, i2, h1, h2, h3, h4, h5, h6, h7⟩ := h
  refine .inr ?_
  rw [kidsAt_of h1 h2 h3]
  simp only [headKey, List.length_cons]
  omega
theorem TreeAt.levels {M : Store} {d : Nat} : ∀ {k : Nat} {id : Int} {lo : Bytes} {hi : Option Bytes} {ps : List Pair} {ids : List Int}, TreeAt M d k id lo hi ps ids → k + 1 ≤ ids.length
 | 0, _, _, _, _, _, ⟨items, i2, h1, h2, h3, h4, h5, h6⟩ => by subst h5; simp
 | k + 1, _, _, _, _, _, ⟨c, L, i2, h1, h2, h3, h4, h5, ⟨p1, p2, i1, i3, g1, g2, ⟨g3, _⟩, g5⟩, h7⟩ => by
  have := TreeAt.levels g3
  subst h7 g2
  simp only [List.length_cons, List.length_append]
  omega
theorem TreeAt.empty {M : Store} {d : Nat} {k : Nat} {id : Int} {lo : Bytes} {hi : Option Bytes} {ids : List Int} (h : TreeAt M d k id lo hi [] ids) : k = 0 ∧ ids = [id] := by
 cases k with
 | zero =>
  obtain ⟨items, i2, h1, h2, h3, h4, h5, h6⟩ := h
  cases items with
  | nil => obtain ⟨_, rfl⟩ := h4; exact ⟨rfl, h5⟩
  | cons x l => obtain ⟨_, _, _, _, e, _⟩ := h4; cases e
 | succ k =>
  obtain ⟨c, L, i2, h1, h2, h3, h4, h5, ⟨p1, p2, i1, i3, g1, g2, ⟨g3, g4⟩, g5⟩, h7⟩ := h
  have : p1 = [] := List.append_eq_nil_iff.1 g1.symm |>.1
  exact absurd this g4
theorem Hist.same {M M' : Store} {k : Nat} {root : Int} {S : Nat → Nat} {n : Nat} {d : Nat} {lo : Bytes} {hi : Option Bytes} {ps : List Pair} {ids : List Int} (h : Hist M k root S n) (ht : TreeAt M d k root lo hi ps ids) (hs : SameOn M M' ids) : Hist M' k root S n := by
 have e : ∀ (f : List Item → Nat) (g : List Child → Nat) l, meas f g M' k root l = meas f g M k root l := fun f g l => by rw [meas_same ht hs]
 exact ⟨by rw [e]; exact h.pot0, fun l => by rw [e]; exact h.potl l, fun l => by rw [e]; exact h.cnt l, h.top⟩
structure TreeH (M : Store) (root : Int) (ps : List Pair) (ids : List Int) (n : Nat) : Prop where
 ex : ∃ k S, TopAt M k root ps ids ∧ Hist M k root S n
 once : ids.Nodup
 short : Short ps
theorem TreeH.same {M M' : Store} {root : Int} {ps : List Pair} {ids : List Int} {n : Nat} (h : TreeH M root ps ids n) (hs : SameOn M M' ids) : TreeH M' root ps ids n := by
 obtain ⟨⟨k, S, h1, h2⟩, h3, h4⟩ := h
 refine ⟨⟨k, S, ⟨h1.tree.same hs, h1.wide.imp id fun e => ?_⟩, h2.same h1.tree hs⟩, h3, h4⟩
 cases k with
 | zero => obtain ⟨items, i2, g1, g2⟩ := h1.tree; unfold kidsAt at e ⊢; rw [hs root (by rw [g2.2.2.2.1]; simp)]; exact e
 | succ k => obtain ⟨c, L, i2, g1, g2⟩ := h1.tree; unfold kidsAt at e ⊢; rw [hs root (by rw [g2.2.2.2.2.2]; simp)]; exact e
theorem TreeH.new {M : Store} {root : Int} (h : M root = some ⟨2, 0, []⟩) : TreeH M root [] [root] 0 :=
 ⟨⟨0, _, ⟨⟨[], [], h, rfl, by simp [layI], ⟨rfl, rfl⟩, rfl, fun q hq => by cases hq⟩, .inl rfl⟩, Hist.new h⟩, by simp, fun q hq => by cases hq⟩
theorem TreeH.there {M : Store} {root : Int} {ps : List Pair} {ids : List Int} {n : Nat} (h : TreeH M root ps ids n) : ∀ i ∈ ids, M i ≠ none := by
 obtain ⟨⟨k, S, h1, h2⟩, h3, h4⟩ := h
 exact h1.tree.there
theorem TreeH.pages {M : Store} {root : Int} {ps : List Pair} {ids : List Int} {n : Nat} (h : TreeH M root ps ids n) (hn : n ≤ 250) (hv : sumV ps ≤ 60000) (hp : ps.length ≤ 250) : ids.length ≤ 1337 := by
 obtain ⟨⟨k, S, h1, h2⟩, h3, h4⟩ := h
 exact h2.pages hn h1 hv hp
theorem TopAt.low {M : Store} {k : Nat} {root : Int} {ps : List Pair} {ids : List Int} (h : TopAt M k root ps ids) (hp : ps.length ≤ 1) : k = 0 := by
 cases k with
 | zero => rfl
 | succ k =>
  exfalso
  obtain ⟨c, L, i2, h1, h2, h3, h4, h5, h6, h7⟩ := h.tree
  have hw := h.wide.resolve_left (by omega)
  rw [kidsAt_of h1 h2 h3] at hw
  cases L with
  | nil => simp [headKey] at hw
  | cons c' L =>
   obtain ⟨p1, p2, j1, j2, e1, e2, ⟨_, g2⟩, ⟨p3, p4, j3, j4, e3, e4, ⟨_, g4⟩, _⟩⟩ := h6
   have a1 := List.length_pos_iff.2 g2
   have a2 := List.length_pos_iff.2 g4
   rw [e1, e3, List.length_append, List.length_append] at hp
   omega
structure TreeL (M : Store) (root : Int) (all : List Pair) : Prop where
 ex : ∃ k ids, TopAt M k root all ids ∧ k < 30
 short : Short all
theorem Hist.high17 {M : Store} {k : Nat} {root : Int} {S : Nat → Nat} {n : Nat} (h : Hist M k root S n) (hn : n ≤ 20000) : k ≤ 17 := by
 have h0 := h.pot0
 have p : ∀ l, 94 * S (l + 1) ≤ 51 * S l := fun l => by have := h.potl l; omega
 have p0 := p 0
 have p1 := p 1
 have p2 := p 2
 have p3 := p 3
 have p4 := p 4
 have p5 := p 5
 have p6 := p 6
 have p7 := p 7
 have p8 := p 8
 have p9 := p 9
 have p10 := p 10
 have p11 := p 11
 have p12 := p 12
 have p13 := p 13
 have p14 := p 14
 have p15 := p 15
 have p16 := p 16
 simp only [Nat.zero_add, Nat.reduceAdd] at p0 p1 p2 p3 p4 p5 p6 p7 p8 p9 p10 p11 p12 p13 p14 p15 p16
 apply Decidable.byContradiction
 intro hk
 have := h.top 17 (by omega)
 omega
theorem TreeH.l {M : Store} {root : Int} {ps : List Pair} {ids : List Int} {n : Nat} (h : TreeH M root ps ids n) (hn : n ≤ 20000) : TreeL M root ps := by
 obtain ⟨⟨k, S, h1, h2⟩, _, h4⟩ := h
 exact ⟨⟨k, ids, h1, by have := h2.high17 hn; omega⟩, h4⟩
end Go.Ev

namespace Go.Ev
open Go.Lib
inductive Zip (M : Store) (d : Nat) (all : List Pair) : Nat → Int → Bytes → Option Bytes → List Pair → Nat → List (List Child × Nat) → Prop
 | root {h : Nat} {id : Int} {ids : List Int} : TreeAt M d h id [] none all ids → (h = 0 ∨ 2 ≤ (kidsAt M id).length) → h < 30 → Zip M d all h id [] none all 0 []
 | down {k : Nat} {id : Int} {lo : Bytes} {hi : Option Bytes} {ps p1 p2 p3 : List Pair} {off : Nat} {path : List (List Child × Nat)} {c y : Child} {L A B : List Child} {i1 i2 i3 : List Int} : Zip M d all (k + 1) id lo hi ps off path →
   c.key = lo → c :: L = A ++ y :: B → Seg (Sub M d k) A (some y.key) p1 i1 → Sub M d k y.page y.key (nextB B hi) p2 i2 → Seg (Sub M d k) B hi p3 i3 → ps = p1 ++ (p2 ++ p3) →
   Zip M d all k y.page y.key (nextB B hi) p2 (off + p1.length) (path ++ [(headKey [] (c :: L), A.length)])
theorem headKey_pg (k : Bytes) : ∀ (L : List Child) (i : Nat) (x : Child), (headKey k L)[i]? = some x → ∃ y, L[i]? = some y ∧ y.page = x.page
 | [], i, x, h => by simp [headKey] at h
 | c :: L, 0, x, h => by
  simp only [headKey, List.getElem?_cons_zero, Option.some.injEq] at h
  subst h
  exact ⟨c, rfl, rfl⟩
 | c :: L, i + 1, x, h => ⟨x, by simpa [headKey] using h, rfl⟩
section
variable {M : Store} {d k off : Nat} {all ps : List Pair} {id : Int} {lo : Bytes} {hi : Option Bytes} {path : List (List Child × Nat)}
theorem Zip.tree (h : Zip M d all k id lo hi ps off path) : (∃ ids, TreeAt M d k id lo hi ps ids) ∧ (path ≠ [] → ps ≠ []) := by
 cases h with
 | root h => exact ⟨⟨_, h⟩, fun h => absurd rfl h⟩
 | down _ _ _ _ h _ _ => exact ⟨⟨_, h.1⟩, fun _ => h.2⟩
theorem Zip.pos (h : Zip M d all k id lo hi ps off path) : ∃ a b, all = a ++ (ps ++ b) ∧ a.length = off ∧ (∀ q ∈ a, lessB q.1 lo = true) ∧ ∀ q ∈ b, ∃ u, hi = some u ∧ lessB q.1 u = false := by
 induction h with
 | root h => exact ⟨[], [], by simp, rfl, fun q hq => by simp at hq, fun q hq => by simp at hq⟩
 | @down k id lo hi ps p1 p2 p3 off path c y L A B i1 i2 i3 hz hr hF s1 s2 s3 hps ih =>
  obtain ⟨a, b, h1, h2, h3, h4⟩ := ih
  subst hps
  -- the lower bound of the parent is not above the child's
  have hlo : ∀ q ∈ a, lessB q.1 y.key = true := by
   intro q hq
   have hq1 := h3 q hq
   cases hAA : A with
   | nil =>
    rw [hAA] at hF
    simp only [List.nil_append, List.cons.injEq] at hF
    rw [← hF.1, hr]
    exact hq1
   | cons x A' =>
    rw [hAA] at hF s1
    simp only [List.cons_append, List.cons.injEq] at hF
    obtain ⟨z, hz'⟩ := List.exists_mem_of_ne_nil _ (s1.ne (by simp))
    have hb := Seg.inR s1 z hz'
    rw [← hF.1, hr] at hb
    exact lessB_trans (lessB_of_lt_le hq1 hb.1) (hb.2 y.key rfl)
  exact ⟨a ++ p1, p3 ++ b, by rw [h1]; simp, by simp [h2], fun q hq => by
   rcases List.mem_append.1 hq with hq | hq
   ·exact hlo q hq
   ·cases hAA : A with
    | nil => rw [hAA] at s1; rw [s1.1] at hq; simp at hq
    | cons x A' => rw [hAA] at s1; exact (Seg.inR s1 q hq).2 y.key rfl, fun q hq => by
   rcases List.mem_append.1 hq with hq | hq
   ·cases hBB : B with
    | nil => rw [hBB] at s3; rw [s3.1] at hq; simp at hq
    | cons b' B' => rw [hBB] at s3; exact ⟨b'.key, rfl, (Seg.inR s3 q hq).1⟩
   ·obtain ⟨u, hu, hl⟩ := h4 q hq
    cases hBB : B with
    | nil => exact ⟨u, hu, hl⟩
    | cons b' B' =>
     rw [hBB] at s3
     refine ⟨b'.key, rfl, ?_⟩
     obtain ⟨x, hx⟩ := List.exists_mem_of_ne_nil _ (s3.ne (by simp))
     have hb := Seg.inR s3 x hx
     have h5 := hb.2 u hu
     -- b'.key <= x < u <= q
     exact lessB_le_trans hb.1 (lessB_asymm (lessB_of_lt_le h5 hl))⟩
theorem Zip.child (h : Zip M d all (k + 1) id lo hi ps off path) : ∃ L, M id = some ⟨3, 0, layC L⟩ ∧ rightC L = true ∧ (layC L).length ≤ 240 ∧ d ≤ L.length ∧ ∀ i x, L[i]? = some x → ∃ lo' hi' ps' off', Zip M d all k x.page lo' hi' ps' off' (path ++ [(L, i)]) ∧
  (i = 0 → off' = off) ∧ (i + 1 = L.length → off' + ps'.length = off + ps.length) ∧ ∀ key, inR lo hi key → i = findC key L → inR lo' hi' key := by
 obtain ⟨⟨ids, c, L, i2, h1, h2, h3, h4, h5, h6, h7⟩, _⟩ := h.tree
 refine ⟨headKey [] (c :: L), h1, h2, h3, by simpa [headKey] using h4, fun i x hx => ?_⟩
 obtain ⟨y, hy, hpg⟩ := headKey_pg _ _ _ _ hx
 have hil : i < (c :: L).length := (List.getElem?_eq_some_iff.1 hy).1
 have hF : c :: L = (c :: L).take i ++ y :: (c :: L).drop (i + 1) := by
  have e : (c :: L).drop i = y :: (c :: L).drop (i + 1) := by
   rw [List.drop_eq_getElem_cons hil]
   rw [List.getElem?_eq_getElem hil, Option.some.injEq] at hy
   rw [hy]
  rw [← e, List.take_append_drop]
 have hlen : ((c :: L).take i).length = i := by rw [List.length_take]; omega
 have hB0 : (c :: L).drop (i + 1) = L.drop i := by simp
 have hy0 : i = 0 → y = c := by rintro rfl; simpa using hy.symm
 have hyk : i ≠ 0 → L[i - 1]? = some y := by
  intro h0
  obtain ⟨j, rfl⟩ : ∃ j, i = j + 1 := ⟨i - 1, by omega⟩
  simpa using hy
 rw [← hpg]
 clear hpg hx hy
 generalize hA : (c :: L).take i = A at *
 generalize hB : (c :: L).drop (i + 1) = B at *
 have hs := h6
 rw [hF] at hs
 obtain ⟨p1, pr, j1, jr, rfl, rfl, s1, s2⟩ := Seg.append.1 hs
 obtain ⟨p2, p3, j2, j3, rfl, rfl, s3, s5⟩ := s2
 have hz := Zip.down h h5 hF s1 s3 s5 rfl
 rw [hlen] at hz
 refine ⟨_, _, _, _, hz, ?_, ?_, ?_⟩
 ·rintro rfl
  have : A = [] := List.eq_nil_of_length_eq_zero hlen
  subst this
  rw [s1.1]
  simp
 ·intro he
  have hBn : B = [] := by
   rw [← hB]
   exact List.drop_of_length_le (by simp [headKey] at he ⊢; omega)
  subst hBn
  rw [s5.1]
  simp only [List.length_append, List.append_nil]
  omega
 ·intro key hin hi0
  have hri : riseC [] L = true := (rightC_cons.1 h2).2.2
  have hfc : findC key (headKey [] (c :: L)) = Go.Ev.below key L := rfl
  rw [hfc] at hi0
  refine ⟨?_, ?_⟩
  ·by_cases h0 : i = 0
   ·rw [hy0 h0, h5]; exact hin.1
   ·obtain ⟨z, z1, z2⟩ := below_lt (k := key) (l := L) (i := i - 1) (by omega)
    rw [hyk h0] at z1
    cases z1
    exact z2
  ·intro u hu
   cases hBB : B with
   | nil => rw [hBB] at hu; exact hin.2 u hu
   | cons b B' =>
    rw [hBB] at hu hB0
    simp only [nextB, Option.some.injEq] at hu
    subst hu
    have hlt : i < L.length := by
     rcases Nat.lt_or_ge i L.length with h | h
     ·exact h
     ·rw [List.drop_of_length_le h] at hB0; cases hB0
    rw [List.drop_eq_getElem_cons hlt] at hB0
    have hb1 := (List.cons.inj hB0).1
    exact below_ge hri (by omega : Go.Ev.below key L ≤ i) (by rw [List.getElem?_eq_getElem hlt, hb1])
theorem Zip.beside {L : List Child} {i : Nat} (h : Zip M d all k id lo hi ps off (path ++ [(L, i)])) : i < L.length ∧ (∃ id' lo' hi' ps' off', Zip M d all (k + 1) id' lo' hi' ps' off' path ∧ (i + 1 = L.length → off' + ps'.length = off + ps.length) ∧ (i = 0 → off' = off)) ∧
  (∀ x, L[i + 1]? = some x → ∃ lo' hi' ps', Zip M d all k x.page lo' hi' ps' (off + ps.length) (path ++ [(L, i + 1)])) ∧
  (∀ x, L[i - 1]? = some x → 0 < i → ∃ lo' hi' ps' off', Zip M d all k x.page lo' hi' ps' off' (path ++ [(L, i - 1)]) ∧ off' + ps'.length = off) := by
 generalize hG : path ++ [(L, i)] = G at h
 cases h with
 | root h => simp at hG
 | @down k id lo hi ps0 p1 _ p3 off path' c y L0 A B i1 i2 i3 hz hr hF s1 s2 s3 hps =>
  obtain ⟨e1, e2⟩ := List.append_inj' hG rfl
  simp only [List.cons.injEq, Prod.mk.injEq, and_true] at e2
  obtain ⟨rfl, rfl⟩ := e2
  subst e1
  subst hps
  have hlen : (headKey [] (c :: L0)).length = A.length + (B.length + 1) := by
   rw [headKey_len, hF, List.length_append]; rfl
  refine ⟨by omega, ⟨_, _, _, _, _, hz, fun he => ?_, fun h0 => ?_⟩, fun x hx => ?_, fun x hx h0 => ?_⟩
  ·have : B = [] := List.eq_nil_of_length_eq_zero (by omega)
   subst this
   rw [s3.1]
   simp only [List.length_append, List.append_nil]
   omega
  ·have : A = [] := List.eq_nil_of_length_eq_zero h0
   subst this
   rw [s1.1]
   simp
  ·cases hBB : B with
   | nil => rw [hBB] at hlen; simp only [List.length_nil] at hlen; have := (List.getElem?_eq_some_iff.1 hx).1; omega
   | cons b B' =>
    subst hBB
    have hs3 := s3
    obtain ⟨q1, q2, j1, j2, rfl, rfl, t1, t2⟩ := hs3
    have hsA : Seg (Sub M d k) (A ++ [y]) (some b.key) (p1 ++ ps) (i1 ++ i2) := Seg.append.2 ⟨p1, ps, i1, i2, rfl, rfl, s1, ps, [], i2, [], by simp, by simp, s2, rfl, rfl⟩
    have hz' := Zip.down hz hr (by rw [hF]; simp : c :: L0 = (A ++ [y]) ++ b :: B') hsA t1 t2 (by simp)
    have e3 : (A ++ [y]).length = A.length + 1 := by simp
    have e4 : off + (p1 ++ ps).length = off + p1.length + ps.length := by simp; omega
    rw [e3, e4] at hz'
    have hg : x = b := by
     have : (c :: L0)[A.length + 1]? = some b := by rw [hF]; simp
     have e5 : (headKey [] (c :: L0))[A.length + 1]? = some b := by simpa [headKey] using this
     rw [e5] at hx
     exact (Option.some.inj hx).symm
    rw [hg]
    exact ⟨_, _, _, hz'⟩
  ·obtain ⟨A', a, hA⟩ : ∃ A' a, A = A' ++ [a] := by
    rcases List.eq_nil_or_concat A with h | ⟨l, b, h⟩
    ·rw [h] at h0; simp at h0
    ·exact ⟨l, b, by simpa using h⟩
   subst hA
   obtain ⟨q1, q2, j1, j2, rfl, rfl, t1, t2⟩ := Seg.append.1 s1
   obtain ⟨r1, r2, k1, k2, rfl, rfl, u1, rfl, rfl⟩ := t2
   simp only [nextB] at u1
   have hsB : Seg (Sub M d k) (y :: B) hi (ps ++ p3) (i2 ++ i3) := ⟨ps, p3, i2, i3, rfl, rfl, s2, s3⟩
   have hz' := Zip.down hz hr (by rw [hF]; simp : c :: L0 = A' ++ a :: (y :: B)) t1 u1 hsB (by simp)
   have e3 : (A' ++ [a]).length - 1 = A'.length := by simp
   have hg : x.page = a.page := by
    obtain ⟨y', hy', hpg⟩ := headKey_pg _ _ _ _ hx
    have : (c :: L0)[(A' ++ [a]).length - 1]? = some a := by rw [hF]; simp
    rw [this] at hy'
    rw [← hpg, Option.some.inj hy']
   rw [hg, e3]
   exact ⟨_, _, _, _, hz', by simp; omega⟩
theorem Zip.leaf (h : Zip M d all 0 id lo hi ps off path) : ∃ items i2, M id = some ⟨2, 0, layI items⟩ ∧ riseI items = true ∧ (layI items).length ≤ 240 ∧ LeafAt M items ps i2 ∧ (path ≠ [] → items ≠ []) := by
 obtain ⟨⟨ids, items, i2, h1, h2, h3, h4, h5, h6⟩, hne⟩ := h.tree
 refine ⟨items, i2, h1, h2, h3, h4, fun hp e => hne hp ?_⟩
 subst e
 exact h4.1
theorem LeafAt.item {l : List Item} {ids : List Int} (h : LeafAt M l ps ids) : l.length = ps.length ∧ ∀ j (hl : j < l.length) (hp : j < ps.length), l[j].key = ps[j].1 ∧ ∃ ii, ValAt M l[j] ps[j].2 ii := by
 induction l generalizing ps ids with
 | nil => obtain ⟨rfl, rfl⟩ := h; exact ⟨rfl, fun j hl => by simp at hl⟩
 | cons x l ih =>
  obtain ⟨v, ps', i1, i2, rfl, rfl, h3, h4⟩ := h
  obtain ⟨q1, q2⟩ := ih h4
  refine ⟨by simp [q1], fun j hl hp => ?_⟩
  cases j with
  | zero => exact ⟨rfl, _, h3⟩
  | succ j => exact q2 j (by simpa using hl) (by simpa using hp)
theorem Zip.high (h : Zip M d all k id lo hi ps off path) : ∃ id' ids', TreeAt M d (k + path.length) id' [] none all ids' := by
 induction h with
 | root h => exact ⟨_, _, h⟩
 | down hz _ _ _ _ _ _ ih =>
  obtain ⟨id', ids', h⟩ := ih
  refine ⟨id', ids', ?_⟩
  have e : ∀ a b : Nat, a + (b + 1) = a + 1 + b := by omega
  rw [List.length_append, List.length_cons, List.length_nil, e]
  exact h
theorem Zip.low (h : Zip M d all k id lo hi ps off path) : k + path.length < 30 := by
 induction h with
 | root _ _ h => simpa using h
 | down hz _ _ _ _ _ _ ih =>
  rw [List.length_append, List.length_cons, List.length_nil]
  omega
theorem Zip.wide (h : Zip M d all k id lo hi ps off path) (hp : path = []) : k = 0 ∨ 2 ≤ (kidsAt M id).length := by
 cases h with
 | root _ h _ => exact h
 | down => simp at hp
end
end Go.Ev

set_option linter.unusedVariables false
set_option linter.unusedSimpArgs false
namespace Go.Ev
open Go.Proofs Go.RowKit
theorem leftmost_any (v : Value) (w : World) : Calls Tryz.prog 95 #[v] w fun e w' => e = .returned (.int .i64 0) ∧ w = w' := by
 go_enter Tryz.func95, Tryz.ntmps95
 go_wp2
 go_ret
 exact ⟨rfl, rfl⟩
theorem seekpick_any (A : Option Addr) (n c bx : Nat) (L : List Child) (key : Bytes) (w : World) (hb : w.cell? ⟨bx, 0, none⟩ = some (strV key)) (hv : Sl w 2 (.slice A n c) n (childrenCs L)) (hn : n ≤ 100000) (hr : rightC L = true) :
  Calls Tryz.prog 92 #[.slice A n c, .pointer (some ⟨bx, 0, none⟩)] w fun e w' => e = .returned (.int .i64 (findC key L : Int)) ∧ w = w' := by
 have HF := Lib.hid (findC_any A n c L key w hv hn hr)
 go_enter Tryz.func92, Tryz.ntmps92
 go_wp2_with (fail)
 go_must (refine HF.out.mono ?_)
 rintro e w1 ⟨rfl, rfl⟩
 go_wp2_with (fail)
 go_ret
 exact ⟨rfl, rfl⟩
end Go.Ev
