/-
  A tree has a way down for every key. A tree that has been deleted from has a way down for every key, too. leaf.Del: items without a key. slices.Sort at a row of integers that is one's own. The pairs that steps make, put in one by one. Keys of a map in a row: what pager.Made leans on. pager.Made, however many pages were made. The document's own tree: its order, where a key is, a pair put in. How many stand ahead of a key: in a leaf, and in all pairs. The way to a key ends at the leaf that would hold it: what is found there is what the tree has. The document's own tree: a pair put in.
-/
import Derived.Test.YtijlmjfemedjdaaGreatDoorMGGwLeaves
import Derived.Test.YtijlmjfemedjdaaGreatDoorMGGvFind
import Derived.Test.YtijlmjfemedjdaaGreatDoorMGGvPutDel
import Derived.Test.YtijlmjfemedjdaaGreatDoorMGGvAny2
import Derived.Test.YtijlmjfemedjdaaGreatDoorMGGwBranch2
import Derived.Test.YtijlmjfemedjdaaGreatDoorMGGwLayK
import Derived.Test.YtijlmjfemedjdaaGreatDoorMGGvBranch
import Derived.Test.YtijlmjfemedjdaaGreatDoorMGGwSeal
import Derived.Lib.SortBridge
import Derived.Test.YtijlmjfemedjdaaGreatDoorMGGvOrd
import Derived.Test.YtijlmjfemedjdaaGreatDoorMGGwWalk
import Derived.Test.YtijlmjfemedjdaaGreatDoorMGGwReplace
import Derived.Test.YtijlmjfemedjdaaGreatDoorMGGwBeg2
set_option linter.unusedVariables false
set_option linter.unusedSimpArgs false
set_option linter.unusedVariables false
set_option linter.unusedSimpArgs false
namespace Go.Ev

theorem Seg.get {T : Int → Bytes → Option Bytes → List Pair → List Int → Prop} : ∀ {L : List Child} {hi : Option Bytes} {ps : List Pair} {ids : List Int} {i : Nat} {y : Child}, Seg T L hi ps ids → L[i]? = some y → ∃ h p q, T y.page y.key h p q
 | [], _, _, _, _, _, _, h => by simp at h
 | c :: L, hi, ps, ids, 0, y, ⟨p1, p2, i1, i2, _, _, h3, _⟩, h => by
  simp only [List.getElem?_cons_zero, Option.some.injEq] at h
  subst h
  exact ⟨_, _, _, h3⟩
 | c :: L, hi, ps, ids, i + 1, y, ⟨p1, p2, i1, i2, _, _, _, h4⟩, h => Seg.get h4 (by simpa using h)

theorem headKey_page (k : Bytes) : ∀ (L : List Child) (i : Nat) (x : Child), (headKey k L)[i]? = some x → ∃ y, L[i]? = some y ∧ y.page = x.page
 | [], i, x, h => by simp [headKey] at h
 | c :: L, 0, x, h => by
  simp only [headKey, List.getElem?_cons_zero, Option.some.injEq] at h
  subst h
  exact ⟨c, rfl, rfl⟩
 | c :: L, i + 1, x, h => ⟨x, by simpa [headKey] using h, rfl⟩

theorem findC_lt {k : Bytes} {c : Child} {L : List Child} : findC k (c :: L) < (c :: L).length := by
 have := below_le k L
 unfold findC
 simp only [List.tail_cons, List.length_cons]
 omega

theorem TreeAt.way {M : Store} {d : Nat} (key : Bytes) : ∀ {k lev : Nat} {id : Int} {lo : Bytes} {hi : Option Bytes} {ps : List Pair} {ids : List Int}, TreeAt M d k id lo hi ps ids → (2 ≤ d ∨ 0 < lev) → lev + k < 30 → (ps ≠ [] ∨ lev = 0) →
  ∃ P lid items, Way M key lev id P lid items ∧ P.length = k
 | 0, lev, id, lo, hi, ps, ids, ⟨items, i2, h1, h2, h3, h4, h5, h6⟩, hd, hl, hp => by
  refine ⟨[], id, items, .leaf h1 h2 h3 ?_ (by omega), rfl⟩
  rcases hp with hp | hp
  ·refine .inl fun e => hp ?_
   subst e
   exact h4.1
  ·exact .inr hp
 | k + 1, lev, id, lo, hi, ps, ids, ⟨c, L, i2, h1, h2, h3, h4, h5, h6, h7⟩, hd, hl, hp => by
  have hlt : findC key (headKey [] (c :: L)) < (headKey [] (c :: L)).length := findC_lt
  obtain ⟨x, hx⟩ : ∃ x, (headKey [] (c :: L))[findC key (headKey [] (c :: L))]? = some x := ⟨_, List.getElem?_eq_getElem hlt⟩
  obtain ⟨y, hy, hpg⟩ := headKey_page [] _ _ _ hx
  obtain ⟨h', p', q', ht, hne⟩ := Seg.get h6 hy
  rw [hpg] at ht
  obtain ⟨P, lid, items, hw, hlen⟩ := TreeAt.way (lev := lev + 1) key ht (.inr (by omega)) (by omega) (.inl hne)
  refine ⟨_, lid, items, .branch h1 h2 h3 ?_ (by omega) hx hw, by simp [hlen]⟩
  rcases hd with hd | hd
  ·refine .inl ?_
   simp only [headKey, List.length_cons]
   omega
  ·exact .inr hd
end Go.Ev

set_option linter.unusedVariables false
set_option linter.unusedSimpArgs false
namespace Go.Ev

theorem TopAt.way {M : Store} {k : Nat} {root : Int} {ps : List Pair} {ids : List Int} (h : TopAt M k root ps ids) (key : Bytes) (hk : k < 30) : ∃ P lid items, Way M key 0 root P lid items ∧ P.length = k := by
 cases k with
 | zero =>
  obtain ⟨items, i2, h1, h2, h3, _⟩ := h.tree
  exact ⟨[], root, items, .leaf h1 h2 h3 (.inr rfl) (by omega), rfl⟩
 | succ k =>
  obtain ⟨c, L, i2, h1, h2, h3, h4, h5, h6, h7⟩ := h.tree
  have hw : 2 ≤ (headKey [] (c :: L)).length := by
   have := h.wide.resolve_left (by omega)
   rw [kidsAt_of h1 h2 h3] at this
   exact this
  have hlt : findC key (headKey [] (c :: L)) < (headKey [] (c :: L)).length := findC_lt
  obtain ⟨x, hx⟩ : ∃ x, (headKey [] (c :: L))[findC key (headKey [] (c :: L))]? = some x := ⟨_, List.getElem?_eq_getElem hlt⟩
  obtain ⟨y, hy, hpg⟩ := headKey_page [] _ _ _ hx
  obtain ⟨h', p', q', ht, hne⟩ := Seg.get h6 hy
  rw [hpg] at ht
  obtain ⟨P, lid, items, hw', hlen⟩ := TreeAt.way (lev := 1) key ht (.inr (by omega)) (by omega) (.inl hne)
  exact ⟨_, lid, items, .branch h1 h2 h3 (.inl hw) (by omega) hx hw', by simp [hlen]⟩
end Go.Ev

set_option linter.unusedVariables false
set_option linter.unusedSimpArgs false
namespace Go.Ev
open Go.Proofs Go.RowKit

set_option maxHeartbeats 4000000 in
set_option maxRecDepth 100000 in
/-- slices.Delete of one element, out of a row of one's own. -/
theorem sdelI_any (base g n cap i : Nat) (l : List Item) (w : World) (h : w.ownsRow base 100 4 (.slice (some ⟨g, 0, none⟩) n cap) n (itemsCs l)) (hi : i < n) (hn : n ≤ 10000) (hb : base ≤ w.heap.size) :
  Calls Tryz.prog 111 #[.slice (some ⟨g, 0, none⟩) n cap, .int .i64 (i : Int), .int .i64 ((i : Int) + 1)] w fun e w' =>
   ∃ v, e = .returned v ∧ w'.ownsRow base 100 4 v (n - 1) (itemsCs (l.take i ++ l.drop (i + 1))) ∧ Keeps (fun k => k = g) w w' := by
 obtain ⟨i0, hinf, hz0, hz1, hz2⟩ := info_parts (show (Tryz.prog.info? 100).map (fun i => (i.zero, i.size, i.bytes)) = some (some (.agg #[.string ⟨#[]⟩, .string ⟨#[]⟩, .int .i64 0, .int .i64 0]), 4, 48) by kernel_rfl)
 have hll : l.length = n := by have := h.1; rw [itemsCs_len] at this; omega
 have hcap : n ≤ cap := by
  rcases h.2 with ⟨e0, _⟩ | ⟨g', cap', cur, e0, _, _, hnc, _⟩
  ·cases e0
  ·simp only [Value.slice.injEq, Option.some.injEq, Addr.mk.injEq, and_true, true_and] at e0
   obtain ⟨rfl, rfl⟩ := e0
   exact hnc
 obtain ⟨j, hj⟩ : ∃ j, i + 1 = j := ⟨_, rfl⟩
 obtain ⟨m, hm⟩ : ∃ m, n - 1 = m := ⟨_, rfl⟩
 -- what is moved up
 obtain ⟨ad, had, hadj⟩ : ∃ ad : Addr, (if cap = j then some (⟨g, 0, none⟩ : Addr) else some ⟨g, j * 4, none⟩) = some ad ∧ (cap = j ∨ ad = ⟨g, j * 4, none⟩) := by
  by_cases hc : cap = j
  ·exact ⟨_, by rw [if_pos hc], .inl hc⟩
  ·exact ⟨_, by rw [if_neg hc], .inr rfl⟩
 have hnews : ∀ k u, (itemsCs (l.drop j))[k]? = some u → w.drew.cell? (ad.add k) = some u := fun k u hu => by
  rcases hadj with hc | rfl
  ·rw [List.drop_eq_nil_of_le (by omega)] at hu
   simp [itemsCs] at hu
  rw [← itemsCs_drop, List.getElem?_drop] at hu
  have h1 := h.cells (g := g) rfl _ _ hu
  rw [addr_add] at h1 ⊢
  rw [Nat.zero_add] at h1
  exact h1
 have hfr := own_front h (Nat.le_of_lt hi)
 rw [itemsCs_take] at hfr
 obtain ⟨w1, hr, hown1, hg1⟩ := run_append_stays (P := Tryz.prog) (ty := 92) w.drew (i := i0) Tryz.underlying92 hinf hz0 hz1 hz2 rfl (by decide) (show w.drew.ownsRow base 100 4 (.slice (some ⟨g, 0, none⟩) i cap) i (itemsCs (l.take i)) from hfr) (a := ad) (m := n - j) (c := cap - j) (news := itemsCs (l.drop j)) (by rw [itemsCs_len, List.length_drop]; omega) hnews (itemsCs_one _) (by omega) (by unfold maxLen; omega) (by omega) hb
 have hmm : i + (n - j) = m := by omega
 rw [hmm, ← itemsCs_append] at hown1
 rw [hmm] at hr
 have hK1 : Keeps (fun k => k = g) w w1 := ((Keeps.refl (fun k => k = g) w).drew).grown hg1 fun k e _ => by cases e; rfl
 -- what is cleared
 obtain ⟨cur', hb1, hcs1⟩ : ∃ cur', w1.heap[g]? = some (.cells cur' 100 (0, 0)) ∧ n * 4 ≤ cur'.size := by
  rcases hown1.2 with ⟨e0, _⟩ | ⟨g', cap', cur, e0, _, hg', hnc, _, hcs, _⟩
  ·cases e0
  ·simp only [Value.slice.injEq, Option.some.injEq, Addr.mk.injEq, and_true, true_and] at e0
   obtain ⟨rfl, rfl⟩ := e0
   exact ⟨cur, hg', by omega⟩
 have hB1 : Blk w1 g 100 cur' := hb1
 have hcl := fun ty => run_clear_one (P := Tryz.prog) w1 92 100 ty (.agg #[.string ⟨#[]⟩, .string ⟨#[]⟩, .int .i64 0, .int .i64 0]) Tryz.underlying92 (fun W => by kernel_rfl) (by simp [Value.cells, Value.oneCell']) g (m * 4) (cap - m) (fun k hk => by
  rw [hB1.cell]
  have h4 : k < 4 := hk
  rw [Array.getElem?_eq_getElem (by omega)]
  rfl) (fun k _ => hB1.frozen _)
 have hown2 := own_beyond (vs := (Value.agg #[.string ⟨#[]⟩, .string ⟨#[]⟩, .int .i64 0, .int .i64 0]).cells.toList) hown1 (Nat.le_refl _)
 have hK2 := hK1.trans (setCells_frm ((Value.agg #[.string ⟨#[]⟩, .string ⟨#[]⟩, .int .i64 0, .int .i64 0]).cells.toList) (m * 4) w1) fun _ _ e => e
 obtain ⟨w2, hw2⟩ : ∃ w2, w1.setCells g (m * 4) (Value.agg #[.string ⟨#[]⟩, .string ⟨#[]⟩, .int .i64 0, .int .i64 0]).cells.toList = w2 := ⟨_, rfl⟩
 rw [hw2] at hown2 hK2 hcl
 have hne : ((i : Int) == (i : Int) + 1) = false := by simp; omega
 have hi0 : (0 : Int) ≤ (i : Int) := by omega
 have hi1 : (i : Int) ≤ (i : Int) + 1 := by omega
 have hi2 : (i : Int) + 1 ≤ (n : Int) := by omega
 have hnc : (n : Int) ≤ (cap : Int) := by omega
 have hic : (i : Int) ≤ (cap : Int) := by omega
 have hm0 : (0 : Int) ≤ (m : Int) := by omega
 have hmn : (m : Int) ≤ (n : Int) := by omega
 have hi01 : (0 : Int) ≤ (i : Int) + 1 := by omega
 have hcm : ¬ cap = m := by omega
 have hnm : n - m = 1 := by omega
 have HE := Lib.hid (And.intro hown2 hK2)
 have HJ := Lib.hid hj
 clear hadj hfr hnews hown1 hg1 hmm hK1 hb1 hcs1 hB1 hown2 hK2 hw2 h
 go_enter Tryz.func111, Tryz.ntmps111
 go_wp2_with (fail)
 refine wp_region_any (by kernel_rfl) ?_
 change wpAny _ _ _ _ _ _ _ (World.drew _)
 try simp only [Act.put, lT, l0, lS]
 refine tA 0 ?_; try simp only [Act.put, lT, l0, lS]
 refine tA 1 ?_; try simp only [Act.put, lT, l0, lS]
 refine tA 2 ?_; try simp only [Act.put, lT, l0, lS]
 refine tA 3 ?_; try simp only [Act.put, lT, l0, lS]
 refine tA 4 ?_; try simp only [Act.put, lT, l0, lS]
 refine tA 5 ?_; try simp only [Act.put, lT, l0, lS]
 refine rd 6 (by kernel_rfl) rfl (fun K hK => ?_); refine if_on rfl ?_
 go_must (refine wp_append_eq _ _ 92 rfl rfl rfl hr ?_)
 go_simp
 refine hK _ _ ?_
 clear hK K
 try simp only [Act.put, lT, l0, lS]
 refine tA 7 ?_; try simp only [Act.put, lT, l0, lS]
 refine wpAny_done (by kernel_rfl) ?_ _
 go_wp2_with (fail)
 go_ret
 refine ⟨_, rfl, ?_, HE.out.2⟩
 rw [HJ.out, hm]
 exact HE.out.1

set_option maxHeartbeats 2000000 in
set_option maxRecDepth 100000 in
theorem delI_any (A : Option Addr) (n c : Nat) (l : List Item) (key : Bytes) (w : World) (hv : Sl w 4 (.slice A n c) n (itemsCs l)) (hn : n ≤ 10000) (hr : riseI l = true) :
  Calls Tryz.prog 52 #[.slice A n c, strV key] w (OwnPost (delI l key) w) := by
 have hl := hv.len4
 subst hl
 have hale := ahead_le key l
 have HF := Lib.hid (findI_any A l.length c l key w hv (by omega) hr)
 have HC := Lib.hid (fun W (hb : Below w.heap.size w W) => cloneI_all A l.length c l W (hv.below hb) (by omega))
 have HDel : Hid (isAt key l = true → delI l key = l.take (ahead key l) ++ l.drop (ahead key l + 1)) := fun h => by unfold delI; rw [if_pos h]
 have HNot : Hid (isAt key l = false → delI l key = l) := fun h => by unfold delI; rw [if_neg (by rw [h]; decide)]
 have HLt : Hid (isAt key l = true → ahead key l < l.length) := fun h => by
  obtain ⟨x, hx, _⟩ := isAt_iff.1 h
  exact (List.getElem?_eq_some_iff.1 hx).1
 clear hv hr
 generalize ahead key l = i at *
 go_enter Tryz.func52, Tryz.ntmps52
 go_wp2_with (fail)
 go_must (refine HF.out.mono ?_)
 rintro e w1 ⟨rfl, hb1⟩
 have HC1 := Lib.hid (HC.out w1 hb1)
 have HB1 := Lib.hid hb1
 clear hb1
 go_wp2_with (fail)
 go_must (refine HC1.out.mono ?_)
 rintro e w2 ⟨v2, rfl, hown, hb2⟩
 have HB2 := Lib.hid (HB1.out.trans (hb2.mono HB1.out.size))
 have hown := own_base hown HB1.out.size
 clear hb2
 cases hat : isAt key l with
 | false =>
  have hd := HNot.out hat
  have HE : Hid (OwnPost (delI l key) w (.returned v2) w2) := by
   rw [hd]
   exact ⟨v2, rfl, hown, HB2.out⟩
  obtain ⟨A2, c2, rfl, _⟩ := Sl.of_own hown
  clear hown hd
  go_wp2_with (fail)
  go_ret
  exact HE.out
 | true =>
  have hlt := HLt.out hat
  have hd := HDel.out hat
  rcases hown.2 with ⟨_, h0⟩ | ⟨g, cap, cur, rfl, hbg, _⟩
  ·omega
  have hDl := sdelI_any w.heap.size g l.length cap i l w2 hown hlt (by omega) HB2.out.size
  have hwi : IntKind.i64.wrap ((i : Int) + 1) = (i : Int) + 1 := IntWalk.i64_in _ (by omega)
  have HDl := Lib.hid hDl
  have HD := Lib.hid hd
  clear hDl hown hd
  go_wp2_with (fail)
  go_must (refine HDl.out.mono ?_)
  rintro e w3 ⟨v3, rfl, hown3, hk3⟩
  have hl3 : l.length - 1 = (delI l key).length := by
   rw [HD.out, List.length_append, List.length_take, List.length_drop]
   omega
  have HE : Hid (OwnPost (delI l key) w (.returned v3) w3) := by
   refine ⟨v3, rfl, ?_, HB2.out.trans (hk3.below HB2.out.size fun k hk e => by omega)⟩
   rw [← hl3, HD.out]
   exact hown3
  obtain ⟨A3, c3, rfl, _⟩ := Sl.of_own hown3
  clear hown3 hk3 hl3
  go_wp2_with (fail)
  go_ret
  exact HE.out
end Go.Ev

set_option linter.unusedVariables false
set_option linter.unusedSimpArgs false
namespace Go.Ev
open Go.Proofs Go.RowKit Go.Sort

def sortZs (l : List Int) : List Int := l.mergeSort fun x y => decide (x ≤ y)
theorem sortZs_perm (l : List Int) : (sortZs l).Perm l := List.mergeSort_perm ..
theorem sortZs_len (l : List Int) : (sortZs l).length = l.length := (sortZs_perm l).length_eq

theorem setCells_row {g : Nat} {e : TypeId} : ∀ (vs : List Value) (o : Nat) (w : World) (cur : Array Value), w.heap[g]? = some (.cells cur e (0, 0)) → ∃ cur', (w.setCells g o vs).heap[g]? = some (.cells cur' e (0, 0)) ∧ cur'.size = cur.size
 | [], _, _, cur, h => ⟨cur, h, rfl⟩
 | v :: vs, o, w, cur, h => by
  have h1 : Blk w g e cur := h
  obtain ⟨cur', h2, h3⟩ := setCells_row vs (o + 1) (w.setCell ⟨g, o, none⟩ v) _ (h1.set o v)
  exact ⟨cur', h2, by rw [h3]; simp⟩

theorem setCells_keeps {g : Nat} : ∀ (vs : List Value) (o : Nat) (w : World), Keeps (fun k => k = g) w (w.setCells g o vs)
 | [], _, w => Keeps.refl _ w
 | v :: vs, o, w => ((Keeps.refl (fun k => k = g) w).setCell (p := ⟨g, o, none⟩) (fun _ => rfl) v).trans (setCells_keeps vs (o + 1) _) fun _ _ e => e

theorem keeps_grow (S : Nat → Prop) (w : World) (os : Array Obj) : Keeps S w (Sort.grow w os) :=
 ⟨rfl, rfl, rfl, by simp [Sort.grow], fun k hk _ => by simp [Sort.grow, Array.getElem?_append, hk]⟩

def SortP (v : Value) (l : List Int) (base : Nat) (w : World) (e : Ending) (w' : World) : Prop :=
 e = .returned (.tuple #[]) ∧ w'.ownsRow base 3 1 v l.length (intsV (sortZs l)) ∧ Keeps (fun k => v.ownBlock = some k) w w'

theorem sort_any (v : Value) (l : List Int) (base : Nat) (w : World) (h : w.ownsRow base 3 1 v l.length (intsV l)) (hl : l.length ≤ 1000000) :
  Calls Tryz.prog 90 #[v] w (SortP v l base w) := by
 have hs := Sl.of_own h
 rcases h.2 with ⟨rfl, h0⟩ | ⟨g, cap, cur, rfl, hb, hg, hn, hm, hcs, hx⟩
 ·have hl0 : l = [] := List.eq_nil_of_length_eq_zero h0
  subst hl0
  refine (AnyM.slices_Sort_int_none Tryz.sortZ none 0 w).mono ?_
  rintro e w' ⟨rfl, rfl⟩
  have e0 : sortZs [] = [] := by simp [sortZs]
  refine ⟨rfl, ?_, Keeps.refl _ _⟩
  rw [e0]
  exact World.ownsRow_nil _ _ _ _
 ·have hB : Blk w g 3 cur := hg
  have hcell : ∀ j, j < l.length → w.cell? ⟨g, 0 + j, none⟩ = some (.int .i64 (l.getD j 0)) := fun j hj => by
   obtain ⟨_, _, e0, _, _, hc⟩ := hs
   cases e0
   obtain ⟨g', o, e1, _, hc⟩ := hc (by omega)
   cases e1
   refine hc j _ ?_
   simp [intsV, hj, List.getD_eq_getElem?_getD]
  have hfr : ∀ j, j < l.length → w.frozen? ⟨g, 0 + j, none⟩ = false := fun j _ => hB.frozen _
  have hH := Lib.holds_of_ints (n := l.length) (Nat.le_refl _) hcell hfr
  rw [List.take_length] at hH
  refine (AnyM.slices_Sort_int Tryz.sortZ g 0 cap l w hH hB.lt (by omega)).mono ?_
  rintro e w' ⟨rfl, q, os, hw⟩
  rw [Lib.sorted_world (Value.int .i64) w g 0 q l.toArray (l.mergeSort fun x y => decide (x ≤ y)) os hH (by simp)] at hw
  replace hw : w' = Sort.grow ((w.drewN q).setCells g 0 ((sortZs l).map (Value.int .i64))) os := hw
  have hcs2 := Lib.cells_sorted_ints (q := q) (os := os) (n := l.length) (ys := sortZs l) (Nat.le_refl _) (sortZs_len l) hcell
  have hK : Keeps (fun k => k = g) w w' := by
   rw [hw]
   exact (((Keeps.refl (fun k => k = g) w).drewN q).trans (setCells_keeps _ 0 _) fun _ _ e => e).trans (keeps_grow _ _ os) fun _ _ e => e
  obtain ⟨cur', h2, h3⟩ := setCells_row (e := 3) ((sortZs l).map (Value.int .i64)) 0 (w.drewN q) cur (hB.drewN q)
  have h4 : w'.heap[g]? = some (.cells cur' 3 (0, 0)) := by
   rw [hw]
   exact ((keeps_grow (fun _ => False) ((w.drewN q).setCells g 0 ((sortZs l).map (Value.int .i64))) os).block g (Array.getElem?_eq_some_iff.1 h2).1 (fun h => h)).trans h2
  refine ⟨rfl, ⟨by simp [intsV, sortZs_len], .inr ⟨g, cap, cur', rfl, hb, h4, hn, hm, by rw [h3, hcs], ?_⟩⟩, hK.mono fun i _ e => by rw [e]; rfl⟩
  refine List.ext_getElem? fun j => ?_
  have hc' := fun j => cell_of_row w' g j cur' 3 (0, 0) h4
  rw [List.getElem?_take]
  by_cases hj : j < l.length
  ·rw [if_pos (by omega), Array.getElem?_toList, ← hc' j]
   have := hcs2 j (by simp [sortZs_len, hj])
   rw [← hw, Nat.zero_add] at this
   rw [this]
   have hj2 : j < (sortZs l).length := by rw [sortZs_len]; exact hj
   simp [intsV, hj2, List.getD_eq_getElem?_getD]
  ·rw [if_neg (by omega), List.getElem?_eq_none (by simp [intsV, sortZs_len]; omega)]
end Go.Ev

namespace Go.Ev
open Go.Lib

def goodKV (k v : List UInt8) : Bool := decide (1 ≤ k.length) && decide (k.length ≤ 40) && decide (v.length ≤ 2000)
theorem goodKV_of {k v : List UInt8} (h : goodKV k v = true) : 1 ≤ k.length ∧ k.length ≤ 40 ∧ v.length ≤ 2000 := by
 unfold goodKV at h
 simp only [Bool.and_eq_true, decide_eq_true_eq] at h
 exact ⟨h.1.1, h.1.2, h.2⟩
theorem goodKV_not {k v : List UInt8} (h : goodKV k v = false) : ¬ (1 ≤ k.length ∧ k.length ≤ 40 ∧ v.length ≤ 2000) := by
 rintro ⟨h1, h2, h3⟩
 unfold goodKV at h
 simp [h1, h2, h3] at h

/-- Keys and values that a tree can have. -/
def GoodP (ps : List Pair) : Prop := ∀ q ∈ ps, goodKV q.1 q.2 = true

def growP : List (List UInt8 × List UInt8) → List Pair → List Pair
 | [], t => t
 | o :: l, t => growP l (if goodKV o.1 o.2 then insP o.1 o.2 t else t)

theorem growP_app : ∀ (a b : List (List UInt8 × List UInt8)) (t : List Pair), growP (a ++ b) t = growP b (growP a t)
 | [], _, _ => rfl
 | o :: a, b, t => by simp only [List.cons_append, growP]; exact growP_app a b _
theorem growP_good : ∀ {l : List (List UInt8 × List UInt8)} {t : List Pair}, GoodP t → GoodP (growP l t)
 | [], _, h => h
 | o :: l, t, h => by
  simp only [growP]
  split
  ·rename_i hg
   exact growP_good fun q hq => by
    rcases insP_mem hq with rfl | hq
    ·exact hg
    ·exact h q hq
  ·exact growP_good h
theorem growP_len : ∀ (l : List (List UInt8 × List UInt8)) (t : List Pair), (growP l t).length ≤ t.length + l.length
 | [], t => by simp [growP]
 | o :: l, t => by
  simp only [growP, List.length_cons]
  have := (insP_len (k := o.1) (v := o.2) t).1
  split
  ·have h := growP_len l (insP o.1 o.2 t)
   omega
  ·have h := growP_len l t
   omega
theorem growP_rising : ∀ {l : List (List UInt8 × List UInt8)} {t : List Pair}, Rising t → Rising (growP l t)
 | [], _, h => h
 | o :: l, t, h => by
  simp only [growP]
  split
  ·exact growP_rising (insP_rising h)
  ·exact growP_rising h
end Go.Ev

set_option linter.unusedVariables false
set_option linter.unusedSimpArgs false
namespace Go.Ev
open Go.Proofs Go.RowKit Go.Maps Go.Sort Go.Shelf

theorem sortsK (m : Nat) : AnyZI.SortsIn Tryz.prog Tryz.sortedZ_ren Fence.wide m :=
  ⟨fun blk off cap ss W hH hblk hsz => callsIn_wide.2 (AnyM.slices_Sort_int Tryz.sortZ blk off cap ss W hH hblk hsz),
   fun p cap W => callsIn_wide.2 (AnyM.slices_Sort_int_none Tryz.sortZ p cap W)⟩

def anyRK : Value → Option (DataW Unit × List MemPlace) := fun _ => some (.lit (.bool true), [])
end Go.Ev

set_option linter.unusedVariables false
set_option linter.unusedSimpArgs false
namespace Go.Ev
open Go.Proofs Go.RowKit Go.Maps Go.Sort Go.Shelf

/-- A map of pages reads as a datum of so many keys. -/
theorem ownedN {w : World} {b : Nat} {l : List Ent} {c : Nat} (h : MapI w b l c) (hc : Clk l c) (hn : (keysE l).Nodup) (hl : l.length ≤ 1000000) (hk : ∀ k ∈ keysE l, -9223372036854775808 ≤ k ∧ k ≤ 9223372036854775807) :
  ∃ D : DataW Unit, w.ownsMap Tryz.prog 3 anyRK b l.length D ∧ Maps.size D = l.length := by
 have hrd : ∀ e ∈ l, WideElems.rd (H := Unit) Tryz.prog 3 anyRK (entA e) = some (.int .i64 e.1, .lit (.bool true)) := fun e he => by
  have hb := hk e.1 (by unfold keysE; exact List.mem_map_of_mem he)
  have hw : (Lit.int .i64 e.1).wf = true := by
   simp only [Lit.wf, IntKind.min, IntKind.max, IntKind.signed, IntKind.bits]
   simp
   omega
  unfold WideElems.rd entA
  rw [Maps.keyOf_int_mk Tryz.underlying3 hw]
  rfl
 refine ⟨.map (((l.map entA).map (WideElems.rg Tryz.prog 3 anyRK)).foldr DataW.insert []), ⟨(l.map entA).toArray, c, h, ⟨?_, ?_, fun x hx => ?_⟩, by simp, rfl⟩, ?_⟩
 ·simp only [List.size_toArray, List.length_map]
  unfold maxLen
  omega
 ·refine ⟨fun x hx => ?_, ?_, ?_⟩
  ·simp only [List.mem_map] at hx
   obtain ⟨e, he, rfl⟩ := hx
   exact hc.1 _ (List.mem_map_of_mem (f := fun e : Ent => e.2.2) he)
  ·rw [show (l.map entA).toArray.toList.map (·.born) = l.map (fun e : Ent => e.2.2) by simp [entA, Function.comp_def]]
   exact hc.2
  ·rw [show (l.map entA).toArray.toList.map (·.key) = (keysE l).map (Value.int .i64) by simp [entA, keysE, Function.comp_def]]
   exact List.Pairwise.map _ (fun a b hab e => hab (by cases e; rfl)) hn
 ·simp only [List.mem_map] at hx
  obtain ⟨e, he, rfl⟩ := hx
  exact ⟨_, hrd e he⟩
 ·show ((((l.map entA).map (WideElems.rg (H := Unit) Tryz.prog 3 anyRK)).foldr DataW.insert [])).length = l.length
  rw [(WideShapes.sorted_perm _).length_eq, List.length_map, List.length_map]

section
variable {p most cnt : Nat} {c : Pc} {M : Store}

set_option maxHeartbeats 2000000 in
set_option maxRecDepth 100000 in
theorem made_any (w : World) (h : PgOk w p c most M cnt) :
  Calls Tryz.prog 15 #[ptrV p] w fun e w' => ∃ A cc, e = .returned (.slice A cnt cc) ∧ Below w.heap.size w w' := by
 obtain ⟨n0, made, was, mc, wc, dc, spare, hA, hI, hP, hcnt⟩ := h
 have hn0 : n0 ≤ most := Nat.le_trans hA.len.1 hA.len.2
 obtain ⟨hsm1, hsm2⟩ := hA.dev.small
 have hcount := hI.count
 have hml : made.length ≤ 1000000 := by omega
 obtain ⟨D, hown, hsz⟩ := ownedN hA.mad hA.clk hI.nodM hml fun k hk => by
  have := (hI.cover k).2 (.inl hk)
  omega
 rw [← hcnt] at hsz hown
 have hcl : cnt ≤ 1000000 := by omega
 have g0 : w.cell? ⟨p, 0, none⟩ = some (ptrV c.d) := hA.blk.cell 0
 have g5 : w.cell? ⟨p, 5, none⟩ = some (.map (some c.mb)) := hA.blk.cell 5
 have hbl := hown.lt
 have hseq : SeqGives Fence.wide 2 Tryz.prog 91 #[.pointer (some ⟨w.heap.size, 0, none⟩)] encZ (fun ss => ss.Perm (intKeys D)) (Maps.size D) (w.alloc (.cells #[.map (some c.mb)] 84)) :=
  AnyZI.keys_gives (ρ := Tryz.keysA_ren) { Tryz.keysA with } Fence.wide _ trivial rfl (by omega) w.heap.size c.mb cnt D _ (by simp) (by simp) (by
   obtain ⟨es, clock, hb, Ft, hs, hD⟩ := hown
   exact ⟨es, clock, (Below.heap_alloc _ _ c.mb hbl).trans hb, Ft, hs, hD⟩)
 have cK : ∀ mb W, CallsIn Fence.wide 5 Tryz.prog 39 #[.map mb] W fun e w' => e = .returned (.func (.func 91) #[] #[.pointer (some ⟨W.heap.size, 0, none⟩)]) ∧ w' = W.alloc (.cells #[.map mb] 84) := fun mb W => AnyZI.keys_in Tryz.keysA Fence.wide 5 trivial rfl mb W
 have cS := AnyZI.sorted_in Tryz.sortedZ Fence.wide 5 trivial trivial trivial trivial rfl (by omega) (sortsK _) (enters_of Tryz.func90 (by kernel_rfl) rfl) 91 #[.pointer (some ⟨w.heap.size, 0, none⟩)] trivial (enters_of Tryz.func91 (by kernel_rfl) rfl) _ _ (by rw [hsz]; unfold maxLen; omega) (by rw [hsz]; omega) _ hseq
 change CallsIn _ _ Tryz.prog 38 _ _ _ at cS
 have hlen : (intKeys D).length = cnt := by
  have : (intKeys D).length = Maps.size D := by
   cases D <;> simp [intKeys, Maps.size]
  rw [this, hsz]
 have HK := Lib.hid (fun mb W => callsIn_wide.1 (cK mb W))
 have HS := Lib.hid (callsIn_wide.1 cS)
 have HLen := Lib.hid hlen
 clear hA hI hP hown hseq cK cS hbl hsz hlen hcount hcnt
 go_enter Tryz.func15, Tryz.ntmps15
 go_wp2_with (fail)
 go_must (refine (pgNone_any _ _ _ g0).mono ?_)
 rintro e w1 ⟨rfl, rfl⟩
 go_wp2_with (fail)
 go_must (refine (HK.out _ _).mono ?_)
 rintro e w2 ⟨rfl, rfl⟩
 go_wp2_with (fail)
 go_must (refine HS.out.mono ?_)
 rintro e w3 ⟨v3, ss, rfl, hS, hrow, hnil, hb⟩
 have hss : ss.length = cnt := by rw [hS.length_eq]; exact HLen.out
 rw [hss] at hrow
 obtain ⟨A, cc, rfl, -⟩ := Sl.of_own hrow
 have HB : Hid (Below w.heap.size w w3) := ((Below.refl _ w).alloc (Nat.le_refl _) _).trans (hb.mono (by simp))
 clear hrow hnil hb hS
 go_wp2_with (fail)
 go_ret
 exact ⟨_, _, rfl, HB.out⟩
end
end Go.Ev

set_option linter.unusedVariables false
set_option linter.unusedSimpArgs false
namespace Go.Ev
open Go.Proofs Go.RowKit

theorem good_any (s : Bytes) (w : World) (hs : s.length ≤ 9223372036854775807) : Calls Tryz.prog 48 #[strV s] w fun e w' => e = .returned (.bool (decide (1 ≤ s.length) && decide (s.length ≤ 40))) ∧ w = w' := by
 obtain ⟨n, hn⟩ : ∃ n, s.length = n := ⟨_, rfl⟩
 rw [hn]
 by_cases h1 : 1 ≤ n
 ·have h1' : (1 : Int) ≤ (n : Int) := by omega
  by_cases h40 : n ≤ 40
  ·have h40' : (n : Int) ≤ 40 := by omega
   go_enter Tryz.func48, Tryz.ntmps48
   go_wp2
   go_ret
   exact ⟨by simp [h1, h40], rfl⟩
  ·have h40' : ¬ (n : Int) ≤ 40 := by omega
   go_enter Tryz.func48, Tryz.ntmps48
   go_wp2
   go_ret
   exact ⟨by simp [h1, h40], rfl⟩
 ·have h1' : ¬ (1 : Int) ≤ (n : Int) := by omega
  go_enter Tryz.func48, Tryz.ntmps48
  go_wp2
  go_ret
  exact ⟨by simp [h1], rfl⟩

theorem drop_cons_of {a : Bytes} {i : Nat} (h : i < a.length) : a.drop i = a[i] :: a.drop (i + 1) := List.drop_eq_getElem_cons h

set_option maxHeartbeats 1000000 in
theorem less_any (a b : Bytes) (w : World) (ha : a.length ≤ 100000) (hb : b.length ≤ 100000) : Calls Tryz.prog 65 #[strV a, strV b] w fun e w' => e = .returned (.bool (lessB a b)) ∧ Below w.heap.size w w' := by
 obtain ⟨na, hna⟩ : ∃ n, a.length = n := ⟨_, rfl⟩
 obtain ⟨nb, hnb⟩ : ∃ n, b.length = n := ⟨_, rfl⟩
 go_enter Tryz.func65, Tryz.ntmps65
 go_wp2
 go_loopg [5] na (fun gk s5 wr => ∃ i : Nat, s5 = .int .i64 (i : Int) ∧ i + gk = na ∧ i ≤ nb ∧ Hid (lessB a b = lessB (a.drop i) (b.drop i)) ∧ Below w.heap.size w wr)
 case atStart => exact ⟨0, rfl, by omega, by omega, rfl, Below.refl _ _⟩
 case round =>
  obtain ⟨i, rfl, hi, hib, hl, hbw⟩ := hrel
  by_cases h1 : i < na
  ·by_cases h2 : i < nb
   ·have h1' : (i : Int) < (na : Int) := by omega
    have h2' : (i : Int) < (nb : Int) := by omega
    have ea := drop_cons_of (a := a) (i := i) (by omega)
    have eb := drop_cons_of (a := b) (i := i) (by omega)
    have h0 : (0 : Int) ≤ (i : Int) := by omega
    have hw : IntKind.i64.wrap ((i : Int) + 1) = (i : Int) + 1 := IntWalk.i64_in _ (by omega)
    obtain ⟨x, hx⟩ : ∃ x, a[i]'(by omega) = x := ⟨_, rfl⟩
    obtain ⟨y, hy⟩ : ∃ y, b[i]'(by omega) = y := ⟨_, rfl⟩
    rw [hx] at ea
    rw [hy] at eb
    have gx : ({ data := List.toArray a } : ByteArray)[i]'(by show i < a.length; omega) = x := hx
    have gy : ({ data := List.toArray b } : ByteArray)[i]'(by show i < b.length; omega) = y := hy
    have HL := hl.out
    rw [ea, eb] at HL
    clear ea eb hl hx hy ha hb
    by_cases hxy : x = y
    ·subst hxy
     have hc : lessB (x :: a.drop (i + 1)) (x :: b.drop (i + 1)) = lessB (a.drop (i + 1)) (b.drop (i + 1)) := by simp [lessB, Op.bytesLess]
     rw [hc] at HL
     have HL := Lib.hid HL
     clear hc
     go_wp2_with (fail)
     refine wp_region_any (by kernel_rfl) ?_
     change wpAny _ _ _ _ _ _ _ (World.drew _)
     try simp only [Act.put, lT, l0, lS]
     refine tA 0 ?_; try simp only [Act.put, lT, l0, lS]
     refine tA 1 ?_; try simp only [Act.put, lT, l0, lS]
     refine tA 2 ?_; try simp only [Act.put, lT, l0, lS]
     refine tA 3 ?_; try simp only [Act.put, lT, l0, lS]
     refine tA 4 ?_; try simp only [Act.put, lT, l0, lS]
     refine tA 5 ?_; try simp only [Act.put, lT, l0, lS]
     refine tA 6 ?_; try simp only [Act.put, lT, l0, lS]
     refine wpAny_done (by kernel_rfl) ?_ _
     go_wp2_with (fail)
     go_roundg (gk - 1)
     case measure => omega
     case rel => exact ⟨i + 1, by simp, by omega, by omega, HL.out, hbw.drew⟩
    ·have hb1 : (((x.toNat : Nat) : Int) != ((y.toNat : Nat) : Int)) = true := by
      simp only [bne_iff_ne, ne_eq]
      intro e
      exact hxy (UInt8.toNat_inj.1 (by omega))
     have HL := Lib.hid HL
     have HXY := Lib.hid hxy
     clear hxy
     go_wp2_with (fail)
     refine wp_region_any (by kernel_rfl) ?_
     change wpAny _ _ _ _ _ _ _ (World.drew _)
     try simp only [Act.put, lT, l0, lS]
     refine tA 0 ?_; try simp only [Act.put, lT, l0, lS]
     refine tA 1 ?_; try simp only [Act.put, lT, l0, lS]
     refine tA 2 ?_; try simp only [Act.put, lT, l0, lS]
     refine tA 3 ?_; try simp only [Act.put, lT, l0, lS]
     refine tA 4 ?_; try simp only [Act.put, lT, l0, lS]
     refine tA 5 ?_; try simp only [Act.put, lT, l0, lS]
     refine tA 6 ?_; try simp only [Act.put, lT, l0, lS]
     refine wpAny_done (by kernel_rfl) ?_ _
     go_wp2_with (fail)
     refine wp_region_any (by kernel_rfl) ?_
     change wpAny _ _ _ _ _ _ _ (World.drew _)
     try simp only [Act.put, lT, l0, lS]
     refine tA 0 ?_; try simp only [Act.put, lT, l0, lS]
     refine tA 1 ?_; try simp only [Act.put, lT, l0, lS]
     refine tA 2 ?_; try simp only [Act.put, lT, l0, lS]
     refine tA 3 ?_; try simp only [Act.put, lT, l0, lS]
     refine tA 4 ?_; try simp only [Act.put, lT, l0, lS]
     refine tA 5 ?_; try simp only [Act.put, lT, l0, lS]
     refine tA 6 ?_; try simp only [Act.put, lT, l0, lS]
     refine rd 7 (by kernel_rfl) rfl (fun K hK => ?_); go_simp; refine hK _ _ ?_; clear hK K
     refine wpAny_done (by kernel_rfl) ?_ _
     go_wp2_with (fail)
     go_ret
     refine ⟨?_, hbw.drew.drew⟩
     try rw [HL.out]
     simp [lessB, Op.bytesLess, HXY.out, UInt8.lt_iff_toNat_lt]
   ·have h2' : ¬ (i : Int) < (nb : Int) := by omega
    have h1' : (i : Int) < (na : Int) := by omega
    have HL := hl.out
    have ed : b.drop i = [] := List.drop_of_length_le (by omega)
    have ec := drop_cons_of (a := a) (i := i) (by omega)
    rw [ed, ec] at HL
    have HL := Lib.hid HL
    clear ed ec hl ha hb
    go_wp2_with (fail)
    go_ret
    refine ⟨?_, hbw⟩
    try rw [HL.out]
    simp [lessB, Op.bytesLess]
    omega
  ·have h1' : ¬ (i : Int) < (na : Int) := by omega
   have HL := hl.out
   have ed : a.drop i = [] := List.drop_of_length_le (by omega)
   rw [ed] at HL
   by_cases hnn : na < nb
   ·have hnn' : (na : Int) < (nb : Int) := by omega
    have e1 : b.drop i ≠ [] := by intro e; rw [List.drop_eq_nil_iff] at e; omega
    have HL := Lib.hid HL
    have HE := Lib.hid e1
    clear ed hl ha hb e1
    go_wp2_with (fail)
    go_ret
    refine ⟨?_, hbw⟩
    try rw [HL.out]
    cases hd : b.drop i with
    | nil => exact absurd hd HE.out
    | cons u l => simp [lessB, Op.bytesLess]
   ·have hnn' : ¬ (na : Int) < (nb : Int) := by omega
    have e1 : b.drop i = [] := List.drop_of_length_le (by omega)
    rw [e1] at HL
    have HL := Lib.hid HL
    clear ed hl ha hb e1
    go_wp2_with (fail)
    go_ret
    refine ⟨?_, hbw⟩
    try rw [HL.out]
    simp [lessB, Op.bytesLess]

-- pairs in a row

def pairCs (q : Pair) : List Value := [strV q.1, strV q.2]
def pairsCs : List Pair → List Value
 | [] => []
 | q :: l => pairCs q ++ pairsCs l
theorem pairsCs_len : ∀ l : List Pair, (pairsCs l).length = l.length * 2
 | [] => rfl
 | q :: l => by simp [pairsCs, pairCs, pairsCs_len l]; omega
theorem pairsCs_app : ∀ a b : List Pair, pairsCs (a ++ b) = pairsCs a ++ pairsCs b
 | [], _ => rfl
 | q :: a, b => by simp [pairsCs, pairsCs_app a b]
theorem pairsCs_take : ∀ (l : List Pair) (k : Nat), (pairsCs l).take (k * 2) = pairsCs (l.take k)
 | [], k => by simp [pairsCs]
 | q :: l, 0 => rfl
 | q :: l, k + 1 => by
  rw [show (k + 1) * 2 = k * 2 + 1 + 1 by omega]
  simp [pairsCs, pairCs, pairsCs_take l k]
theorem pairsCs_drop : ∀ (l : List Pair) (k : Nat), (pairsCs l).drop (k * 2) = pairsCs (l.drop k)
 | [], k => by simp [pairsCs]
 | q :: l, 0 => rfl
 | q :: l, k + 1 => by
  rw [show (k + 1) * 2 = k * 2 + 1 + 1 by omega]
  simp [pairsCs, pairCs, pairsCs_drop l k]
theorem pairsCs_one : ∀ l : List Pair, ∀ u ∈ pairsCs l, u.oneCell' = true
 | [], u, h => by simp [pairsCs] at h
 | q :: l, u, h => by
  simp only [pairsCs, pairCs, List.cons_append, List.nil_append, List.mem_cons] at h
  rcases h with rfl | rfl | h
  ·rfl
  ·rfl
  ·exact pairsCs_one l u h
theorem pairsCs_at : ∀ (l : List Pair) (k : Nat) (hk : k < l.length), (pairsCs l)[k * 2]? = some (strV l[k].1) ∧ (pairsCs l)[k * 2 + 1]? = some (strV l[k].2)
 | q :: l, 0, _ => ⟨rfl, rfl⟩
 | q :: l, k + 1, h => by
  have ih := pairsCs_at l k (by simpa using h)
  rw [show (k + 1) * 2 = k * 2 + 2 by omega]
  simpa [pairsCs, pairCs] using ih

/-- How many stand ahead of a key; is it there? -/
def aheadP (k : Bytes) : List Pair → Nat
 | [] => 0
 | q :: l => if lessB q.1 k then aheadP k l + 1 else 0
def isAtP (k : Bytes) : List Pair → Bool
 | [] => false
 | q :: l => if lessB q.1 k then isAtP k l else q.1 == k

theorem aheadP_le (k : Bytes) : ∀ l : List Pair, aheadP k l ≤ l.length
 | [] => Nat.le_refl _
 | q :: l => by
  have := aheadP_le k l
  simp only [aheadP, List.length_cons]
  split <;> omega
theorem aheadP_drop (k : Bytes) {l : List Pair} {i : Nat} (h : i < l.length) : aheadP k (l.drop i) = if lessB l[i].1 k then aheadP k (l.drop (i + 1)) + 1 else 0 := by
 rw [List.drop_eq_getElem_cons h]
 rfl
theorem isAtP_eq (k : Bytes) : ∀ l : List Pair, isAtP k l = match l[aheadP k l]? with | some q => q.1 == k | none => false
 | [] => rfl
 | q :: l => by
  have ih := isAtP_eq k l
  simp only [isAtP, aheadP]
  split
  ·rw [ih]; simp
  ·simp
theorem insP_at (k v : Bytes) : ∀ l : List Pair, insP k v l = l.take (aheadP k l) ++ (k, v) :: l.drop (if isAtP k l then aheadP k l + 1 else aheadP k l)
 | [] => rfl
 | q :: l => by
  have ih := insP_at k v l
  simp only [insP, aheadP, isAtP]
  by_cases h1 : lessB q.1 k = true
  ·simp only [h1, if_true]
   rw [ih]
   split <;> simp
  ·by_cases h2 : lessB k q.1 = true
   ·have : (q.1 == k) = false := by
     simp only [beq_eq_false_iff_ne, ne_eq]
     exact (lessB_ne h2).symm
    simp [h1, h2, this]
   ·have : (q.1 == k) = true := by
     simp only [beq_iff_eq]
     rcases lessB_total q.1 k with h | h | h
     ·exact absurd h h1
     ·exact h
     ·exact absurd h h2
    simp [h1, h2, this]

def FindP (key : Bytes) (t : List Pair) (w : World) (e : Ending) (w' : World) : Prop :=
 e = .returned (.tuple #[.int .i64 (aheadP key t : Int), .bool (isAtP key t)]) ∧ Below w.heap.size w w'

set_option maxHeartbeats 1000000 in
theorem findP_any (A : Option Addr) (n c : Nat) (t : List Pair) (key : Bytes) (w : World) (hv : Sl w 2 (.slice A n c) n (pairsCs t)) (hn : n ≤ 100000) (hk : key.length ≤ 100000) (hks : ∀ q ∈ t, q.1.length ≤ 100000) :
  Calls Tryz.prog 49 #[.slice A n c, strV key] w (FindP key t w) := by
 have hl : t.length = n := by
  obtain ⟨_, _, _, _, h1, _⟩ := hv
  rw [pairsCs_len] at h1
  omega
 subst hl
 go_enter Tryz.func49, Tryz.ntmps49
 go_wp2
 go_loopg [6] t.length (fun gk s6 wr => ∃ i : Nat, s6 = .int .i64 (i : Int) ∧ i + gk = t.length ∧ Hid (aheadP key t = i + aheadP key (t.drop i)) ∧ Below w.heap.size w wr)
 case atStart => exact ⟨0, rfl, by omega, by show _ = 0 + _; rw [Nat.zero_add]; rfl, Below.refl _ _⟩
 case round =>
  obtain ⟨i, rfl, hi, hl, hbw⟩ := hrel
  by_cases h1 : i < t.length
  ·have h1' : (i : Int) < (t.length : Int) := by omega
   have h0 : (0 : Int) ≤ (i : Int) := by omega
   have hw : IntKind.i64.wrap ((i : Int) + 1) = (i : Int) + 1 := IntWalk.i64_in _ (by omega)
   obtain ⟨A', c', e0, _, _, hcl⟩ := hv.below hbw
   cases e0
   obtain ⟨blk, off, rfl, hbl, hcell⟩ := hcl (by omega)
   obtain ⟨p1, p2⟩ := pairsCs_at t i h1
   have x1 := hcell _ _ p1
   have x2 := hcell _ _ p2
   have HL := Lib.hid (less_any t[i].1 key wr (hks _ (List.getElem_mem ..)) hk)
   have hD := hl.out
   rw [aheadP_drop key h1] at hD
   have hQ := Lib.hid (isAtP_eq key t)
   cases hc : lessB t[i].1 key with
   | true =>
    rw [hc] at HL hD
    simp only [if_true] at hD
    have hD := Lib.hid hD
    clear hv hks hcell hl p1 p2 hcl
    go_wp2_with (fail)
    go_must (refine HL.out.mono ?_)
    rintro e w1 ⟨rfl, hb1⟩
    go_wp2_with (fail)
    go_roundg (gk - 1)
    case measure => omega
    case rel => exact ⟨i + 1, by simp, by omega, by show _ = _; rw [hD.out]; omega, hbw.trans (hb1.mono hbw.size)⟩
   | false =>
    rw [hc] at HL hD
    simp only [Bool.false_eq_true, if_false] at hD
    have hat : isAtP key t = (t[i].1 == key) := by
     rw [hQ.out, hD, Nat.add_zero, List.getElem?_eq_getElem h1]
    have x1' : ∀ W, Below wr.heap.size wr W → W.cell? ⟨blk, off + i * 2, none⟩ = some (strV t[i].1) := fun W hW => (hW.cell (p := ⟨blk, off + i * 2, none⟩) hbl).trans x1
    have hD := Lib.hid hD
    have HAT := Lib.hid hat
    have X1 := Lib.hid x1'
    clear hv hks hcell hl p1 p2 hcl hat x1'
    go_wp2_with (fail)
    go_must (refine HL.out.mono ?_)
    rintro e w1 ⟨rfl, hb1⟩
    have y1 := X1.out w1 hb1
    go_wp2_with (fail)
    refine wp_region_any (by kernel_rfl) ?_
    change wpAny _ _ _ _ _ _ _ (World.drew _)
    try simp only [Act.put, lT, l0, lS]
    refine tA 0 ?_; try simp only [Act.put, lT, l0, lS]
    refine tA 1 ?_; try simp only [Act.put, lT, l0, lS]
    refine tA 2 ?_; try simp only [Act.put, lT, l0, lS]
    refine tA 3 ?_; try simp only [Act.put, lT, l0, lS]
    refine tA 4 ?_; try simp only [Act.put, lT, l0, lS]
    refine tA 5 ?_; try simp only [Act.put, lT, l0, lS]
    refine tA 6 ?_; try simp only [Act.put, lT, l0, lS]
    refine tA 7 ?_; try simp only [Act.put, lT, l0, lS]
    refine tA 8 ?_; try simp only [Act.put, lT, l0, lS]
    refine tA 9 ?_; try simp only [Act.put, lT, l0, lS]
    try simp only [Act.put, lT, l0, lS]
    refine rA 10 (v := ?_) (hy := ?hy) ?_; case hy => (intro w hE; have q0 := hE.cell y1; go_simp; try with_reducible rfl)
    try simp only [Act.put, lT, l0, lS]
    try simp only [Act.put, lT, l0, lS]
    refine tA 11 ?_; try simp only [Act.put, lT, l0, lS]
    refine tA 12 ?_; try simp only [Act.put, lT, l0, lS]
    refine tA 13 ?_; try simp only [Act.put, lT, l0, lS]
    refine rd 14 (by kernel_rfl) rfl (fun K hK => ?_); go_simp; refine hK _ _ ?_; clear hK K
    refine rd 15 (by kernel_rfl) rfl (fun K hK => ?_); go_simp; refine hK _ _ ?_; clear hK K
    refine wpAny_done (by kernel_rfl) ?_ _
    go_wp2_with (fail)
    refine bodyPost_ret (v := .tuple #[.int .i64 (i : Int), .bool (t[i].1 == key)]) (by simp [results, Tryz.results49, go_sem]) rfl ?_
    exact ⟨by rw [hD.out, HAT.out]; simp, (hbw.trans (hb1.mono hbw.size)).drew⟩
  ·have h1' : ¬ (i : Int) < (t.length : Int) := by omega
   have hii : i = t.length := by omega
   have hD := hl.out
   rw [hii, List.drop_length] at hD
   simp only [aheadP, Nat.add_zero] at hD
   have hat : isAtP key t = false := by rw [isAtP_eq, hD]; simp
   have hD := Lib.hid hD
   have HAT := Lib.hid hat
   have HII := Lib.hid hii
   clear hv hks hl hat hii
   go_wp2_with (fail)
   refine wp_region_any (by kernel_rfl) ?_
   change wpAny _ _ _ _ _ _ _ (World.drew _)
   try simp only [Act.put, lT, l0, lS]
   refine tA 0 ?_; try simp only [Act.put, lT, l0, lS]
   refine tA 1 ?_; try simp only [Act.put, lT, l0, lS]
   refine tA 2 ?_; try simp only [Act.put, lT, l0, lS]
   refine tA 3 ?_; try simp only [Act.put, lT, l0, lS]
   refine tA 4 ?_; try simp only [Act.put, lT, l0, lS]
   refine tA 5 ?_; try simp only [Act.put, lT, l0, lS]
   try simp only [Act.put, lT, l0, lS]
   refine sA 6 ?_; try simp only [Act.put, lT, l0, lS]
   refine sA 7 ?_; try simp only [Act.put, lT, l0, lS]
   refine sA 8 ?_; try simp only [Act.put, lT, l0, lS]
   refine sA 9 ?_; try simp only [Act.put, lT, l0, lS]
   refine sA 10 ?_; try simp only [Act.put, lT, l0, lS]
   refine sA 11 ?_; try simp only [Act.put, lT, l0, lS]
   refine sA 12 ?_; try simp only [Act.put, lT, l0, lS]
   try simp only [Act.put, lT, l0, lS]
   refine tA 13 ?_; try simp only [Act.put, lT, l0, lS]
   refine rd 14 (by kernel_rfl) rfl (fun K hK => ?_); go_simp; refine hK _ _ ?_; clear hK K
   refine rd 15 (by kernel_rfl) rfl (fun K hK => ?_); go_simp; refine hK _ _ ?_; clear hK K
   refine wpAny_done (by kernel_rfl) ?_ _
   go_wp2_with (fail)
   refine bodyPost_ret (v := .tuple #[.int .i64 (i : Int), .bool false]) (by simp [results, Tryz.results49, go_sem]) rfl ?_
   exact ⟨by rw [hD.out, HAT.out, HII.out], hbw.drew⟩
end Go.Ev

set_option linter.unusedVariables false
set_option linter.unusedSimpArgs false
namespace Go.Ev
open Go.Proofs Go.RowKit

theorem aheadP_appT {k : Bytes} : ∀ {a b : List Pair}, (∀ q ∈ a, lessB q.1 k = true) → aheadP k (a ++ b) = a.length + aheadP k b
 | [], b, _ => by simp
 | q :: a, b, h => by
  simp only [List.cons_append, aheadP, List.length_cons]
  rw [if_pos (h q (List.mem_cons_self ..)), aheadP_appT fun z hz => h z (List.mem_cons_of_mem _ hz)]
  omega
theorem aheadP_stopT {k : Bytes} : ∀ {a b : List Pair}, (∀ q ∈ b, lessB q.1 k = false) → aheadP k (a ++ b) = aheadP k a
 | [], [], _ => rfl
 | [], q :: b, h => by simp [aheadP, h q (List.mem_cons_self ..)]
 | q :: a, b, h => by
  simp only [List.cons_append, aheadP]
  rw [aheadP_stopT h]
theorem ahead_leafT {M : Store} {k : Bytes} : ∀ {l : List Item} {ps : List Pair} {ids : List Int}, LeafAt M l ps ids → ahead k l = aheadP k ps
 | [], _, _, ⟨h, _⟩ => by subst h; rfl
 | x :: l, _, _, ⟨v, ps', i1, i2, h1, h2, h3, h4⟩ => by
  subst h1
  simp only [ahead, aheadP]
  rw [ahead_leafT h4]
theorem ahead_zipT {M : Store} {all ps : List Pair} {id : Int} {lo : Bytes} {hi : Option Bytes} {off : Nat} {path : List (List Child × Nat)} {its : List Item} {i2 : List Int} {key : Bytes} (hz : Zip M 1 all 0 id lo hi ps off path) (hla : LeafAt M its ps i2) (hin : inR lo hi key) : aheadP key all = off + ahead key its := by
 obtain ⟨a, b, e1, e2, e3, e4⟩ := hz.pos
 rw [e1, aheadP_appT fun q hq => lessB_of_lt_le (e3 q hq) hin.1, e2, aheadP_stopT, ahead_leafT hla]
 intro q hq
 obtain ⟨u, hu, hl⟩ := e4 q hq
 cases hc : lessB q.1 key
 ·rfl
 ·have := lessB_trans hc (hin.2 u hu)
  rw [this] at hl
  cases hl

theorem rising_tailT {q : Pair} {l : List Pair} (h : Rising (q :: l)) : Rising l ∧ ∀ p ∈ l, lessB q.1 p.1 = true := by
 have := Rising.append.1 (show Rising ([q] ++ l) from h)
 exact ⟨this.2.1, fun p hp => this.2.2 q (by simp) p hp⟩

theorem rising_splitT {all : List Pair} {i : Nat} {q : Pair} (hr : Rising all) (hq : all[i]? = some q) : (∀ p ∈ all.take i, lessB p.1 q.1 = true) ∧ ∀ p ∈ all.drop (i + 1), lessB q.1 p.1 = true := by
 obtain ⟨hlt, he⟩ := List.getElem?_eq_some_iff.1 hq
 have e : all = all.take i ++ q :: all.drop (i + 1) := by
  rw [← he, ← List.drop_eq_getElem_cons hlt, List.take_append_drop]
 rw [e, Rising.append] at hr
 exact ⟨fun p hp => hr.2.2 p hp q (List.mem_cons_self ..), (rising_tailT hr.2.1).2⟩

/-- A pair stands where its key is sought. -/
theorem ahead_atT {all : List Pair} {i : Nat} {q : Pair} (hr : Rising all) (hq : all[i]? = some q) : aheadP q.1 all = i ∧ isAtP q.1 all = true := by
 obtain ⟨hlt, he⟩ := List.getElem?_eq_some_iff.1 hq
 obtain ⟨h1, h2⟩ := rising_splitT hr hq
 have e : all = all.take i ++ q :: all.drop (i + 1) := by
  rw [← he, ← List.drop_eq_getElem_cons hlt, List.take_append_drop]
 have ha : aheadP q.1 all = i := by
  rw [e, aheadP_appT h1, List.length_take, Nat.min_eq_left (Nat.le_of_lt hlt)]
  simp [aheadP, lessB_irrefl]
 refine ⟨ha, ?_⟩
 rw [isAtP_eq, ha, hq]
 simp
end Go.Ev

set_option linter.unusedVariables false
set_option linter.unusedSimpArgs false
namespace Go.Ev

theorem Trail.zip {M : Store} {d : Nat} {all : List Pair} {key : Bytes} {id lid : Int} {P : List (Int × Nat × List Child)} {items : List Item} (ht : Trail M key id P lid items) :
  ∀ {k : Nat} {lo : Bytes} {hi : Option Bytes} {ps : List Pair} {off : Nat} {path : List (List Child × Nat)}, Zip M d all k id lo hi ps off path → inR lo hi key →
   ∃ lo' hi' ps' off' path' i2, Zip M d all 0 lid lo' hi' ps' off' path' ∧ inR lo' hi' key ∧ LeafAt M items ps' i2 ∧ riseI items = true ∧ (layI items).length ≤ 240 := by
 induction ht with
 | leaf h1 h2 h3 =>
  intro k lo hi ps off path hz hin
  cases k with
  | zero =>
   obtain ⟨⟨ids, its, i2, q1, q2, q3, q4, _, _⟩, _⟩ := hz.tree
   rw [h1] at q1
   simp only [Option.some.injEq, Pg.mk.injEq, true_and] at q1
   have := layI_inj h2 q2 h3 q1
   subst this
   exact ⟨lo, hi, ps, off, path, i2, hz, hin, q4, h2, h3⟩
  | succ k =>
   obtain ⟨L, q1, _⟩ := hz.child
   rw [h1] at q1
   simp at q1
 | branch h1 h2 h3 h4 _ ih =>
  intro k lo hi ps off path hz hin
  cases k with
  | zero =>
   obtain ⟨⟨ids, its, i2, q1, _⟩, _⟩ := hz.tree
   rw [h1] at q1
   simp at q1
  | succ k =>
   obtain ⟨L', q1, q2, q3, _, q5⟩ := hz.child
   rw [h1] at q1
   simp only [Option.some.injEq, Pg.mk.injEq, true_and] at q1
   have := layC_inj h2 q2 h3 q1
   subst this
   obtain ⟨lo', hi', ps', off', hz', _, _, hk⟩ := q5 _ _ h4
   exact ih hz' (hk _ hin rfl)

/-- What the leaf says of a key, and what all pairs say. -/
theorem leaf_find {M : Store} {all ps : List Pair} {lid : Int} {lo : Bytes} {hi : Option Bytes} {off : Nat} {path : List (List Child × Nat)} {items : List Item} {i2 : List Int} {key : Bytes} (hz : Zip M 1 all 0 lid lo hi ps off path) (hla : LeafAt M items ps i2) (hin : inR lo hi key) :
  isAtP key all = isAt key items ∧ ∀ (h : ahead key items < items.length), isAt key items = true → ∃ v ids, all[aheadP key all]? = some (key, v) ∧ ValAt M items[ahead key items] v ids := by
 have ha := ahead_zipT hz hla hin
 obtain ⟨a, b, e1, e2, e3, e4⟩ := hz.pos
 have hlen := hla.item.1
 have hat : ∀ (h : ahead key items < items.length), ∃ v ids, all[aheadP key all]? = some (items[ahead key items].key, v) ∧ ValAt M items[ahead key items] v ids := by
  intro h
  obtain ⟨hkey, ids, hval⟩ := hla.item.2 (ahead key items) h (by omega)
  refine ⟨_, ids, ?_, hval⟩
  rw [ha, e1, List.getElem?_append_right (by omega), e2, Nat.add_sub_cancel_left, List.getElem?_append_left (by omega), List.getElem?_eq_getElem (by omega), hkey]
 refine ⟨?_, fun h hi => ?_⟩
 ·rw [isAtP_eq]
  by_cases h : ahead key items < items.length
  ·obtain ⟨v, ids, h1, _⟩ := hat h
   rw [h1]
   cases hc : isAt key items with
   | true =>
    obtain ⟨x, hx, hk⟩ := isAt_iff.1 hc
    rw [List.getElem?_eq_getElem h, Option.some.injEq] at hx
    simp [hx, hk]
   | false =>
    have : ¬ items[ahead key items].key = key := fun e => by
     have := isAt_iff.2 ⟨_, List.getElem?_eq_getElem h, e⟩
     rw [hc] at this
     cases this
    simpa using this
  ·have hle := ahead_le key items
   have hc : isAt key items = false := by
    cases hc : isAt key items with
    | false => rfl
    | true =>
     obtain ⟨x, hx, _⟩ := isAt_iff.1 hc
     exact absurd (List.getElem?_eq_some_iff.1 hx).1 h
   rw [hc]
   cases hq : all[aheadP key all]? with
   | none => rfl
   | some q =>
    rw [ha, e1, List.getElem?_append_right (by omega), e2, Nat.add_sub_cancel_left, List.getElem?_append_right (by omega)] at hq
    obtain ⟨u, hu, hl⟩ := e4 q (List.mem_of_getElem? hq)
    have h2 := hin.2 u hu
    simp only [beq_eq_false_iff_ne, ne_eq]
    intro e
    rw [e, h2] at hl
    cases hl
 ·obtain ⟨v, ids, h1, h2⟩ := hat h
  obtain ⟨x, hx, hk⟩ := isAt_iff.1 hi
  rw [List.getElem?_eq_getElem h, Option.some.injEq] at hx
  rw [hx, hk] at h1
  exact ⟨v, ids, h1, h2⟩
end Go.Ev

set_option linter.unusedVariables false
set_option linter.unusedSimpArgs false
namespace Go.Ev
open Go.Proofs Go.RowKit

theorem infoPair : (Tryz.prog.info? 48).map (fun i => (i.zero, i.size, i.bytes)) = some (some (.agg #[strV [], strV []]), 2, 32) := by kernel_rfl

theorem aheadAt_lt {k : Bytes} {l : List Pair} (h : isAtP k l = true) : aheadP k l < l.length := by
 rw [isAtP_eq] at h
 cases hq : l[aheadP k l]? with
 | none => rw [hq] at h; cases h
 | some q => exact (List.getElem?_eq_some_iff.1 hq).1

def RefPutP (key v : Bytes) (t : List Pair) (w : World) (e : Ending) (w' : World) : Prop :=
 ∃ u, e = .returned (.tuple #[u, .int .i64 0]) ∧ w'.ownsRow w.heap.size 48 2 u (insP key v t).length (pairsCs (insP key v t)) ∧ Below w.heap.size w w'

theorem refPut_bad (A : Option Addr) (n c : Nat) (key v : Bytes) (w : World) (hk : key.length ≤ 9223372036854775807) (hv : v.length ≤ 9223372036854775807) (hbad : ¬ (1 ≤ key.length ∧ key.length ≤ 40 ∧ v.length ≤ 2000)) :
  Calls Tryz.prog 17 #[.slice A n c, strV key, strV v] w fun e w' => e = .returned (.tuple #[.slice A n c, .int .i64 1]) ∧ w = w' := by
 have hG := good_any key w hk
 obtain ⟨m, hm⟩ : ∃ m, v.length = m := ⟨_, rfl⟩
 rw [hm] at hbad hv
 by_cases hg : 1 ≤ key.length ∧ key.length ≤ 40
 ·have e1 : decide (1 ≤ key.length) = true := by simpa using hg.1
  have e2 : decide (key.length ≤ 40) = true := by simpa using hg.2
  rw [e1, e2] at hG
  have h2 : (2000 : Int) < (m : Int) := by omega
  have HG := Lib.hid hG
  clear hG e1 e2
  go_enter Tryz.func17, Tryz.ntmps17
  go_wp2_with (fail)
  go_must (refine HG.out.mono ?_)
  rintro e w1 ⟨rfl, rfl⟩
  go_wp2_with (fail)
  refine bodyPost_ret (v := .tuple #[.slice A n c, .int .i64 1]) (by simp [results, Tryz.results17, go_sem]) rfl ?_
  exact ⟨rfl, rfl⟩
 ·have e1 : (decide (1 ≤ key.length) && decide (key.length ≤ 40)) = false := by
   rw [Bool.and_eq_false_iff]
   simp only [decide_eq_false_iff_not]
   omega
  rw [e1] at hG
  have HG := Lib.hid hG
  clear hG e1
  go_enter Tryz.func17, Tryz.ntmps17
  go_wp2_with (fail)
  go_must (refine HG.out.mono ?_)
  rintro e w1 ⟨rfl, rfl⟩
  go_wp2_with (fail)
  refine bodyPost_ret (v := .tuple #[.slice A n c, .int .i64 1]) (by simp [results, Tryz.results17, go_sem]) rfl ?_
  exact ⟨rfl, rfl⟩

theorem row_pair (w : World) (q : Pair) (T : TypeId) (B : Nat) (hB : B = w.heap.size) : ∀ j v, (pairsCs [q])[j]? = some v → (w.alloc (.cells #[strV q.1, strV q.2] T)).cell? ((⟨B, 0, none⟩ : Addr).add j) = some v := by
 intro j v h
 subst hB
 rw [addr_add]
 have hb := Blk.new w T #[strV q.1, strV q.2]
 match j with
 | 0 => cases h; exact hb.cell 0
 | 1 => cases h; exact hb.cell 1
 | j + 2 => simp [pairsCs, pairCs] at h

theorem sl_pair (w : World) (q : Pair) (T : TypeId) : Sl (w.alloc (.cells #[strV q.1, strV q.2] T)) 2 (.slice (some ⟨w.heap.size, 0, none⟩) 1 1) 1 (pairsCs [q]) := by
 refine ⟨_, _, rfl, Nat.le_refl _, rfl, fun _ => ⟨w.heap.size, 0, rfl, by simp, fun j u hu => ?_⟩⟩
 have := row_pair w q T _ rfl j u hu
 rw [addr_add] at this
 exact this

set_option maxHeartbeats 4000000 in
set_option maxRecDepth 100000 in
theorem refPut_any (B : Nat) (x : Value) (t : List Pair) (key v : Bytes) (w : World) (hx : w.ownsRow B 48 2 x t.length (pairsCs t)) (hn : t.length ≤ 10000) (hks : ∀ q ∈ t, q.1.length ≤ 100000) (hk1 : 1 ≤ key.length) (hk2 : key.length ≤ 40) (hv : v.length ≤ 2000) :
  Calls Tryz.prog 17 #[x, strV key, strV v] w (RefPutP key v t w) := by
 obtain ⟨i0, hi, q0, q1, q2⟩ := info_parts infoPair
 have hG := good_any key w (by omega)
 have e1 : decide (1 ≤ key.length) = true := by simpa using hk1
 have e2 : decide (key.length ≤ 40) = true := by simpa using hk2
 rw [e1, e2] at hG
 obtain ⟨m, hm⟩ : ∃ m, v.length = m := ⟨_, rfl⟩
 have hm2 : ¬ (2000 : Int) < (m : Int) := by omega
 obtain ⟨A, c, rfl, hnc⟩ : ∃ A c, x = .slice A t.length c ∧ t.length ≤ c := by obtain ⟨A, c, e, h, _⟩ := Sl.of_own hx; exact ⟨A, c, e, h⟩
 have hsl := Sl.of_own hx
 have hAc : A = none → c = 0 ∧ t = [] := by
  rintro rfl
  rcases hx.2 with ⟨e, h⟩ | ⟨g, cap, cur, e, _⟩
  ·simp only [Value.slice.injEq] at e
   exact ⟨e.2.2, List.eq_nil_of_length_eq_zero e.2.1⟩
  ·simp at e
 have hF := findP_any A t.length c t key w hsl (by omega) (by omega) hks
 obtain ⟨k, hk⟩ : ∃ k, k = aheadP key t := ⟨_, rfl⟩
 obtain ⟨is, his⟩ : ∃ is, is = isAtP key t := ⟨_, rfl⟩
 obtain ⟨d, hd⟩ : ∃ d, d = if is then k + 1 else k := ⟨_, rfl⟩
 have hins := insP_at key v t
 rw [← his, ← hk, ← hd] at hins
 unfold FindP at hF
 rw [← hk, ← his] at hF
 have hkt : k ≤ t.length := hk ▸ aheadP_le key t
 have hkd : is = true → k + 1 ≤ t.length := fun h => by have := aheadAt_lt (his ▸ h : isAtP key t = true); omega
 have hdt : d ≤ t.length := by rw [hd]; cases is with | true => simpa using hkd rfl | false => simpa using hkt
 -- the front and the rest
 obtain ⟨A1, c1, hA1, hs1, hn1⟩ : ∃ A1 c1, (Value.slice A k c = .slice A1 k c1) ∧ Sl w 2 (.slice A1 k c1) k (pairsCs (t.take k)) ∧ (A1 = none → c1 = 0) := by
  refine ⟨A, c, rfl, ?_, fun h => (hAc h).1⟩
  rw [← pairsCs_take]
  exact Sl.take hsl hkt
 cases hA1
 have hrest : ∀ j, j ≤ t.length → ∃ A3, (A = none → A3 = none ∧ c - j = 0) ∧ (∀ blk off, A = some ⟨blk, off, none⟩ → A3 = if c = j then some ⟨blk, off, none⟩ else some ⟨blk, off + j * 2, none⟩) ∧ Sl w 2 (.slice A3 (t.length - j) (c - j)) (t.length - j) (pairsCs (t.drop j)) ∧ (A3 = none → c - j = 0) := by
  intro j hj
  cases A with
  | none =>
   obtain ⟨rfl, rfl⟩ := hAc rfl
   exact ⟨none, fun _ => ⟨rfl, by omega⟩, fun blk off h => (by cases h), by simpa [pairsCs] using Sl.nil w 2 (0 - j) none, fun _ => by omega⟩
  | some a =>
   rcases hx.2 with ⟨e, _⟩ | ⟨g, cap, cur, e, _⟩
   ·cases e
   ·cases e
    by_cases hc : c = j
    ·refine ⟨some ⟨g, 0, none⟩, fun h => (by cases h), fun blk off h => (by cases h; rw [if_pos hc]), ?_, fun h => by cases h⟩
     have : t.length - j = 0 := by omega
     rw [this, List.drop_of_length_le (by omega)]
     exact Sl.nil ..
    ·refine ⟨some ⟨g, 0 + j * 2, none⟩, fun h => (by cases h), fun blk off h => (by cases h; rw [if_neg hc]), ?_, fun h => by cases h⟩
     rw [← pairsCs_drop]
     exact Sl.drop hsl hj
 have hins_len : (insP key v t).length ≤ 10001 := by have := (insP_len (k := key) (v := v) t).1; omega
 have hlen : (insP key v t).length = k + 1 + (t.length - d) := by
  rw [hins, List.length_append, List.length_cons, List.length_take, List.length_drop]
  omega
 have hcs : pairsCs (insP key v t) = pairsCs (t.take k) ++ pairsCs [(key, v)] ++ pairsCs (t.drop d) := by
  rw [hins, ← pairsCs_app, ← pairsCs_app]
  simp
 have hE : ∀ u W, W.ownsRow w.heap.size 48 2 u (k + 1 + (t.length - d)) (pairsCs (t.take k) ++ pairsCs [(key, v)] ++ pairsCs (t.drop d)) → Below w.heap.size w W → RefPutP key v t w (.returned (.tuple #[u, .int .i64 0])) W := fun u W h1 h2 => by
  refine ⟨u, rfl, ?_, h2⟩
  rw [hlen, hcs]
  exact h1
 have HE := Lib.hid hE
 have HF := Lib.hid hF
 have HG := Lib.hid hG
 have HRest := Lib.hid hrest
 have HS1 := Lib.hid hs1
 have HKD := Lib.hid hkd
 have HD := Lib.hid hd
 have hb := Lib.hid hx
 clear hE hF hG hrest hs1 hcs hlen hins hk his hsl hx e1 e2 hins_len hkd hd hk1 hk2 hv hks
 cases A with
 | none =>
  obtain ⟨rfl, rfl⟩ := hAc rfl
  have hk0 : k = 0 := by simpa using hkt
  have hd0 : d = 0 := by simpa using hdt
  subst hk0 hd0
  cases is with
  | true => exact absurd (HKD.out rfl) (by simp)
  | false =>
   clear hAc hn1 hdt hkt hnc hn
   go_enter Tryz.func17, Tryz.ntmps17
   go_wp2_with (fail)
   go_must (refine HG.out.mono ?_)
   rintro e w0 ⟨rfl, rfl⟩
   go_wp2_with (fail)
   go_must (refine HF.out.mono ?_)
   rintro e w1 ⟨rfl, hb1⟩
   have hz1 := hb1.size
   go_wp2_with (at_builtin; go_must (refine wpList_append_sl rfl _ _ 41 rfl w.heap.size 48 i0 _ 2 32 Tryz.underlying41 hi q0 q1 q2 rfl (by decide) (.slice none 0 0) 0 [] rfl (World.ownsRow_nil _ _ _ _) none 0 0 [] rfl (Sl.nil ..) (fun _ => rfl) (by simp) (by decide) (by omega) hz1 ?_))
   intro v1 w2 own1 gr1
   have hb2 : Below w.heap.size w w2 := hb1.grown gr1 hz1 (fun k hk => by cases hk)
   have hz2 := hb2.size
   obtain ⟨A1, c1, rfl, _⟩ := Sl.of_own own1
   go_wp2_with (at_builtin; go_must (refine wpList_append_sl rfl _ _ 41 rfl w.heap.size 48 i0 _ 2 32 Tryz.underlying41 hi q0 q1 q2 rfl (by decide) _ 0 [] rfl (own1.alloc _) (some ⟨w2.heap.size, 0, none⟩) 1 1 (pairsCs [(key, v)]) rfl (sl_pair w2 (key, v) _) (fun h => by cases h) (pairsCs_one _) (by decide) (by omega) (by simp; omega) ?_))
   intro v2 w3 own2 gr2
   have hb3 : Below w.heap.size w w3 := (hb2.alloc hz2 _).grown gr2 (by simp; omega) (fun k hk => (own1.lt k hk).1)
   have hz3 := hb3.size
   obtain ⟨A2, c2, rfl, _⟩ := Sl.of_own own2
   go_wp2_with (at_builtin; go_must (refine wpList_append_sl rfl _ _ 41 rfl w.heap.size 48 i0 _ 2 32 Tryz.underlying41 hi q0 q1 q2 rfl (by decide) _ 1 (pairsCs [(key, v)]) rfl own2 none 0 0 [] rfl (Sl.nil ..) (fun _ => rfl) (by simp) (by decide) (by omega) hz3 ?_))
   intro v3 w4 own3 gr3
   have hb4 : Below w.heap.size w w4 := hb3.grown gr3 hz3 (fun k hk => (own2.lt k hk).1)
   obtain ⟨A3, c3, rfl, _⟩ := Sl.of_own own3
   go_wp2_with (fail)
   refine bodyPost_ret (v := .tuple #[.slice A3 1 c3, .int .i64 0]) (by simp [results, Tryz.results17, go_sem]) rfl ?_
   exact HE.out _ _ (by simpa [pairsCs] using own3) hb4
 | some a =>
  obtain ⟨g, off, rfl⟩ : ∃ g off, a = ⟨g, off, none⟩ := by
   rcases hb.out.2 with ⟨e, _⟩ | ⟨g, cap, cur, e, _⟩
   ·cases e
   ·cases e; exact ⟨g, 0, rfl⟩
  obtain ⟨n, hn'⟩ : ∃ n, t.length = n := ⟨_, rfl⟩
  rw [hn'] at hkt hdt hnc hn HE HF HRest HKD hb ⊢
  obtain ⟨A3, _, hA3, hs3, hn3⟩ := HRest.out d hdt
  replace hA3 := (hA3 g off rfl).symm
  have hkn : (k : Int) ≤ (n : Int) := by omega
  have hkc : k ≤ c := by omega
  have hdn : d ≤ n := hdt
  have hML : 100000 ≤ maxLen := by unfold maxLen; omega
  have HS3 := Lib.hid (And.intro hs3 hn3)
  have HN := Lib.hid hn'
  clear hAc hn1 hs3 hn3 hn'
  go_enter Tryz.func17, Tryz.ntmps17
  go_wp2_with (fail)
  go_must (refine HG.out.mono ?_)
  rintro e w0 ⟨rfl, rfl⟩
  go_wp2_with (fail)
  go_must (refine HF.out.mono ?_)
  rintro e w1 ⟨rfl, hb1⟩
  have hz1 := hb1.size
  cases is with
  | true =>
   have hd1 : d = k + 1 := HD.out
   have hw1 : IntKind.i64.wrap ((k : Int) + 1) = (k : Int) + 1 := IntWalk.i64_in _ (by omega)
   have hk1n : (k : Int) + 1 ≤ (n : Int) := by omega
   have hk0 : (0 : Int) ≤ (k : Int) + 1 := by omega
   have htn : ((k : Int) + 1).toNat = k + 1 := by omega
   subst hd1
   go_wp2_with (at_builtin; go_must (refine wpList_append_sl rfl _ _ 41 rfl w.heap.size 48 i0 _ 2 32 Tryz.underlying41 hi q0 q1 q2 rfl (by decide) (.slice none 0 0) 0 [] rfl (World.ownsRow_nil _ _ _ _) (some ⟨g, off, none⟩) k c (pairsCs (t.take k)) rfl (HS1.out.below hb1) (fun h => by cases h) (pairsCs_one _) (by omega) (by omega) hz1 ?_))
   intro v1 w2 own1 gr1
   have hb2 : Below w.heap.size w w2 := hb1.grown gr1 hz1 (fun k hk => by cases hk)
   have hz2 := hb2.size
   obtain ⟨A1, c1, rfl, _⟩ := Sl.of_own own1
   go_wp2_with (at_builtin; go_must (refine wpList_append_sl rfl _ _ 41 rfl w.heap.size 48 i0 _ 2 32 Tryz.underlying41 hi q0 q1 q2 rfl (by decide) _ _ _ rfl (own1.alloc _) (some ⟨w2.heap.size, 0, none⟩) 1 1 (pairsCs [(key, v)]) rfl (sl_pair w2 (key, v) _) (fun h => by cases h) (pairsCs_one _) (by omega) (by omega) (by simp; omega) ?_))
   intro v2 w3 own2 gr2
   have hb3 : Below w.heap.size w w3 := (hb2.alloc hz2 _).grown gr2 (by simp; omega) (fun k hk => (own1.lt k hk).1)
   have hz3 := hb3.size
   obtain ⟨A2, c2, rfl, _⟩ := Sl.of_own own2
   go_wp2_with (at_builtin; go_must (refine wpList_append_sl rfl _ _ 41 rfl w.heap.size 48 i0 _ 2 32 Tryz.underlying41 hi q0 q1 q2 rfl (by decide) _ _ _ rfl own2 A3 _ _ (pairsCs (t.drop (k + 1))) rfl (HS3.out.1.below hb3) HS3.out.2 (pairsCs_one _) (by omega) (by omega) hz3 ?_))
   intro v3 w4 own3 gr3
   have hb4 : Below w.heap.size w w4 := hb3.grown gr3 hz3 (fun k hk => (own2.lt k hk).1)
   obtain ⟨A4, c4, rfl, _⟩ := Sl.of_own own3
   go_wp2_with (fail)
   refine bodyPost_ret (v := .tuple #[.slice A4 _ c4, .int .i64 0]) (by simp [results, Tryz.results17, go_sem]; rfl) rfl ?_
   have hkn2 : k + 1 + (n - (k + 1)) = n := by omega
   exact HE.out _ _ (by simpa [hkn2] using own3) hb4
  | false =>
   have hd1 : d = k := HD.out
   subst hd1
   go_wp2_with (at_builtin; go_must (refine wpList_append_sl rfl _ _ 41 rfl w.heap.size 48 i0 _ 2 32 Tryz.underlying41 hi q0 q1 q2 rfl (by decide) (.slice none 0 0) 0 [] rfl (World.ownsRow_nil _ _ _ _) (some ⟨g, off, none⟩) d c (pairsCs (t.take d)) rfl (HS1.out.below hb1) (fun h => by cases h) (pairsCs_one _) (by omega) (by omega) hz1 ?_))
   intro v1 w2 own1 gr1
   have hb2 : Below w.heap.size w w2 := hb1.grown gr1 hz1 (fun k hk => by cases hk)
   have hz2 := hb2.size
   obtain ⟨A1, c1, rfl, _⟩ := Sl.of_own own1
   go_wp2_with (at_builtin; go_must (refine wpList_append_sl rfl _ _ 41 rfl w.heap.size 48 i0 _ 2 32 Tryz.underlying41 hi q0 q1 q2 rfl (by decide) _ _ _ rfl (own1.alloc _) (some ⟨w2.heap.size, 0, none⟩) 1 1 (pairsCs [(key, v)]) rfl (sl_pair w2 (key, v) _) (fun h => by cases h) (pairsCs_one _) (by omega) (by omega) (by simp; omega) ?_))
   intro v2 w3 own2 gr2
   have hb3 : Below w.heap.size w w3 := (hb2.alloc hz2 _).grown gr2 (by simp; omega) (fun k hk => (own1.lt k hk).1)
   have hz3 := hb3.size
   obtain ⟨A2, c2, rfl, _⟩ := Sl.of_own own2
   go_wp2_with (at_builtin; go_must (refine wpList_append_sl rfl _ _ 41 rfl w.heap.size 48 i0 _ 2 32 Tryz.underlying41 hi q0 q1 q2 rfl (by decide) _ _ _ rfl own2 A3 _ _ (pairsCs (t.drop d)) rfl (HS3.out.1.below hb3) HS3.out.2 (pairsCs_one _) (by omega) (by omega) hz3 ?_))
   intro v3 w4 own3 gr3
   have hb4 : Below w.heap.size w w4 := hb3.grown gr3 hz3 (fun k hk => (own2.lt k hk).1)
   obtain ⟨A4, c4, rfl, _⟩ := Sl.of_own own3
   go_wp2_with (fail)
   refine bodyPost_ret (v := .tuple #[.slice A4 _ c4, .int .i64 0]) (by simp [results, Tryz.results17, go_sem]; rfl) rfl ?_
   exact HE.out _ _ (by simpa using own3) hb4
end Go.Ev
