/-
  Below which child a key stands. Rows of children side by side. Children with others in the place of one.
-/
import Derived.Test.YtoemhefcmibjpaaGreatDoorMGwGetC
import Derived.Test.YtoemhefcmibjpaaGreatDoorMGwPilePut
import Derived.Lib.AppendZerosOnto
import Derived.Test.YtoemhefcmibjpaaGreatDoorMEvInsert
set_option linter.unusedVariables false
set_option linter.unusedSimpArgs false
set_option linter.unusedVariables false
set_option linter.unusedSimpArgs false
namespace Go.Ev
open Go.Proofs Go.RowKit
def MidC (k : Bytes) (l : List Child) (lo hi : Nat) : Prop := lo ≤ below k l ∧ below k l ≤ hi
set_option maxHeartbeats 1000000 in
set_option maxRecDepth 100000 in
theorem findC_any (A : Option Addr) (n c : Nat) (l : List Child) (k : Bytes) (w : World) (hv : Sl w 2 (.slice A n c) n (childrenCs l)) (hn : n ≤ 100000) (hr : rightC l = true) :
  Calls Tryz.prog 77 #[.slice A n c, strV k] w fun e w' => e = .returned (.int .i64 (findC k l : Nat)) ∧ w' = w := by
 have hl := hv.len2
 subst hl
 have hA := below_le k l
 have hB := Lib.hid (below_right (k := k) hr)
 go_enter Tryz.func77, Tryz.ntmps77
 go_wp2
 go_loopg [5, 6, 7] l.length (fun g s5 s6 s7 wr => wr = w ∧ ∃ at' lo hi : Nat, s5 = .int .i64 at' ∧ s6 = .int .i64 lo ∧ s7 = .int .i64 hi ∧ lo ≤ hi ∧ hi ≤ l.length ∧ hi - lo ≤ g ∧ (lo = 0 ∨ lo = at' + 1) ∧ Hid (MidC k l lo hi))
 case atStart => exact ⟨rfl, 0, 0, l.length, rfl, rfl, rfl, by omega, by omega, by omega, by omega, ⟨by omega, by omega⟩⟩
 case round =>
  obtain ⟨rfl, at', lo, hi, rfl, rfl, rfl, hlh, hin, hg, hat, hM⟩ := hrel
  by_cases hlt : lo < hi
  ·obtain ⟨A', c', e0, h0, h1, h2⟩ := hv
   cases e0
   obtain ⟨blk, off, rfl, hbl, hcell⟩ := h2 (by omega)
   obtain ⟨m, hm⟩ : ∃ m, m = lo + (hi - lo) / 2 := ⟨_, rfl⟩
   have hk' : m < l.length := by omega
   obtain ⟨i0, i1⟩ := child_2 (w := wr) fun j u hu => child_cells hcell hk' j u hu
   have hx : l[m]? = some l[m] := List.getElem?_eq_getElem hk'
   generalize l[m] = x at *
   clear hcell h2 h1
   have hmI : (lo : Int) + ((hi : Int) - (lo : Int)) / 2 = (m : Int) := by omega
   have hmle : lo ≤ m ∧ m < hi := by omega
   have hm0 : (0 : Int) ≤ (m : Int) ∧ (m : Int) < (l.length : Int) := by omega
   have hd0 : (0 : Int) ≤ (hi : Int) - (lo : Int) := by omega
   obtain ⟨hm1, hm2⟩ := hm0
   obtain ⟨hml, hmr⟩ := hmle
   have HM := Lib.hid hm
   clear hm
   cases hq : lessB k x.key
   ·have hM2 : Hid (MidC k l (m + 1) hi) := by
     refine ⟨?_, hM.out.2⟩
     refine Nat.lt_of_not_le fun h => ?_
     have := below_ge' hr h hx
     rw [hq] at this
     cases this
    have hor : lessB x.key k = true ∨ (lessB x.key k = false ∧ (x.key == k) = true) := by
     rcases lessB_total x.key k with h | h | h
     ·exact .inl h
     ·exact .inr ⟨by rw [h]; exact lessB_irrefl _, by simp [h]⟩
     ·rw [hq] at h; cases h
    have Hx := Lib.hid hx
    clear hx hM hq
    rcases hor with hq1 | ⟨hq1, hq2⟩
    all_goals
     go_wp2
     go_roundg (hi - (m + 1))
     case measure => omega
     case rel => exact ⟨rfl, m, m + 1, hi, rfl, by go_num, rfl, by omega, by omega, by omega, by omega, hM2⟩
   ·have hM2 : Hid (MidC k l lo m) := by
     refine ⟨hM.out.1, Nat.le_of_not_lt fun h => ?_⟩
     obtain ⟨y, h1, h2⟩ := below_lt h
     rw [hx] at h1
     cases h1
     rw [hq] at h2
     cases h2
    have hq1 := lessB_asymm hq
    have hq2 : (x.key == k) = false := by simpa using fun e => lessB_ne hq e.symm
    clear hx hM hq
    go_wp2
    go_roundg (m - lo)
    case measure => omega
    case rel => exact ⟨rfl, at', lo, m, rfl, rfl, rfl, by omega, by omega, by omega, by omega, hM2⟩
  ·obtain rfl : hi = lo := by omega
   have hat2 : at' = findC k l := by
    obtain ⟨m1, m2⟩ := hM.out
    have := hB.out
    omega
   subst hat2
   clear hM hA
   go_wp2
   go_ret
   exact ⟨rfl, rfl⟩
end Go.Ev

set_option linter.unusedVariables false
set_option linter.unusedSimpArgs false
namespace Go.Ev
open Go.Proofs Go.RowKit
theorem infoC : (Tryz.prog.info? 157).map (fun i => (i.zero, i.size, i.bytes)) = some (some (.agg #[.string ⟨#[]⟩, .int .i64 0]), 2, 24) := by kernel_rfl
set_option maxHeartbeats 1000000 in
set_option maxRecDepth 100000 in
theorem growC_any (n : Nat) (w : World) (hn : n ≤ 1000000) :
  Calls Tryz.prog 176 #[.slice none 0 0, .int .i64 n] w fun e w' => ∃ v', e = .returned v' ∧ w'.ownsRow w.heap.size 157 2 v' 0 [] ∧ Below w.heap.size w w' := by
 obtain ⟨i0, hi, hz0, hz1, hz2⟩ := info_parts infoC
 by_cases h0 : n = 0
 ·subst h0
  go_enter Tryz.func176, Tryz.ntmps176
  go_wp2
  go_ret
  exact ⟨_, rfl, World.ownsRow_nil _ _ _ _, Below.refl _ _⟩
 ·have hpos : (0 : Int) < (n : Int) := by omega
  have hold : (Builtin.firstCells i0.size 0 (.slice none 0 0)).run Tryz.prog w.drew = .ok ([] : List Value).toArray w.drew := rfl
  have hrz := fun ty => Lib.run_append_grow_zeros w 100 3 ty 157 i0 _ .i64 .i64 Tryz.underlying100 Tryz.underlying3 hi hz0 none 0 0 [] hold n (by omega) (by omega) (by omega) (by omega) (by rw [hz2]; omega)
   (by rw [hz2, Nat.zero_add]; exact growslice_fits (by omega) (by omega))
  simp only [Nat.zero_add] at hrz
  have hGn : n ≤ grownCap w n 0 157 := grownCap_ge w _ _ _
  have hGm := grownCap_le_maxLen w n 0 157 (by unfold maxLen; omega)
  have hGm2 := hGm
  unfold maxLen at hGm2
  generalize grownCap w n 0 157 = G at *
  have hsz : ((([] : List Value).toArray ++ Builtin.zeroCells (Value.agg #[.string ⟨#[]⟩, .int .i64 0]).cells n ++ Builtin.zeroCells (Value.agg #[.string ⟨#[]⟩, .int .i64 0]).cells (G - n))).size = G * 2 := by
   have h2 : (Value.agg #[Value.string ⟨#[]⟩, Value.int .i64 0]).cells.size = 2 := rfl
   simp only [Array.size_append, List.size_toArray, List.length_nil, Builtin.zeroCells, Array.size_map, Array.size_range, h2]
   omega
  generalize (([] : List Value).toArray ++ Builtin.zeroCells (Value.agg #[.string ⟨#[]⟩, .int .i64 0]).cells n ++ Builtin.zeroCells (Value.agg #[.string ⟨#[]⟩, .int .i64 0]).cells (G - n)) = ROW at *
  have hnew : (w.drew.alloc (.cells ROW 157)).heap[w.heap.size]? = some (.cells ROW 157 (0, 0)) := heap_alloc_new w.drew _
  have hown : (w.drew.alloc (.cells ROW 157)).ownsRow w.heap.size 157 2 (.slice (some ⟨w.heap.size, 0, none⟩) 0 G) 0 [] := own_of hnew (Nat.le_refl _) (by omega) hGm hsz rfl (by intro j hj; omega)
  have hbel : Below w.heap.size w (w.drew.alloc (.cells ROW 157)) := ((Below.refl _ w).drew.alloc (Nat.le_refl _) _)
  have HO := Lib.hid hown
  have HZ := Lib.hid hsz
  clear hown hsz hnew hz0 hz1 hz2 h0
  go_enter Tryz.func176, Tryz.ntmps176
  go_wp2_with (at_builtin; go_must (refine Lib.wpList_append_run _ rfl _ _ _ _ rfl _ _ rfl rfl _ _ (hrz _) ?_))
  go_ret
  exact ⟨_, rfl, HO.out, hbel⟩
structure Part where
 A : Option Addr
 m : Nat
 c : Nat
 L : List Child
deriving Inhabited
def Part.v (p : Part) : Value := .slice p.A p.m p.c
def Part.ok (w : World) (p : Part) : Prop := Sl w 2 (.slice p.A p.m p.c) p.m (childrenCs p.L) ∧ (p.A = none → p.c = 0)
def sumP : List Part → Nat
 | [] => 0
 | p :: l => p.m + sumP l
def catP : List Part → List Child
 | [] => []
 | p :: l => p.L ++ catP l
theorem sumP_append : ∀ a b : List Part, sumP (a ++ b) = sumP a + sumP b
 | [], b => by simp [sumP]
 | p :: a, b => by simp only [List.cons_append, sumP, sumP_append a b]; omega
theorem catP_append : ∀ a b : List Part, catP (a ++ b) = catP a ++ catP b
 | [], b => rfl
 | p :: a, b => by simp only [List.cons_append, catP, catP_append a b, List.append_assoc]
theorem sumP_take {l : List Part} {k : Nat} (h : k < l.length) : sumP (l.take (k + 1)) = sumP (l.take k) + l[k].m := by
 rw [List.take_succ_eq_append_getElem h, sumP_append]; rfl
theorem catP_take {l : List Part} {k : Nat} (h : k < l.length) : catP (l.take (k + 1)) = catP (l.take k) ++ l[k].L := by
 rw [List.take_succ_eq_append_getElem h, catP_append]; simp [catP]
theorem sumP_le (l : List Part) (k : Nat) : sumP (l.take k) ≤ sumP l := by
 have : sumP l = sumP (l.take k) + sumP (l.drop k) := by rw [← sumP_append, List.take_append_drop]
 omega
set_option maxHeartbeats 1000000 in
set_option maxRecDepth 100000 in
theorem concatC_any (g c : Nat) (ps : List Part) (w : World) (hg : g < w.heap.size) (hc : ps.length ≤ c) (hcell : ∀ k (h : k < ps.length), w.cell? ⟨g, k, none⟩ = some ps[k].v) (hp : ∀ p ∈ ps, p.ok w) (hs : sumP ps ≤ 100000) (hl : ps.length ≤ 1000) :
  Calls Tryz.prog 138 #[.slice (some ⟨g, 0, none⟩) ps.length c] w fun e w' =>
   ∃ v', e = .returned v' ∧ w'.ownsRow w.heap.size 157 2 v' (sumP ps) (childrenCs (catP ps)) ∧ Below w.heap.size w w' := by
 obtain ⟨i0, hi, hz0, hz1, hz2⟩ := info_parts infoC
 have HP := Lib.hid hp
 have HC := Lib.hid hcell
 clear hp hcell
 go_enter Tryz.func138, Tryz.ntmps138
 go_wp2
 go_loopg [3, 11] ps.length (fun gk s3 s11 wr => wr = w ∧ ∃ k : Nat, k ≤ ps.length ∧ ps.length - k ≤ gk ∧ s11 = .int .i64 k ∧ s3 = .int .i64 (sumP (ps.take k)))
 case atStart => exact ⟨rfl, 0, by omega, by omega, rfl, rfl⟩
 case round =>
  obtain ⟨rfl, k, hk, hgk, rfl, rfl⟩ := hrel
  have hsk := sumP_le ps k
  by_cases hlt : k < ps.length
  ·have hc1 := HC.out k hlt
   have hst := sumP_take hlt
   have hsk1 := sumP_le ps (k + 1)
   unfold Part.v at hc1
   have Hst : Hid (sumP (ps.take (k + 1)) = sumP (ps.take k) + ps[k].m) := hst
   rw [hst] at hsk1
   clear hst
   generalize ps[k] = p at *
   generalize sumP (ps.take k) = skx at *
   go_wp2
   go_roundg (ps.length - (k + 1))
   case measure => omega
   case rel => exact ⟨rfl, k + 1, by omega, by omega, by go_num, by rw [Hst.out]; go_num⟩
  ·obtain rfl : k = ps.length := by omega
   have ht : sumP (ps.take ps.length) = sumP ps := by rw [List.take_length]
   rw [ht]
   clear ht hsk
   go_wp2_with (fail)
   go_must (refine (growC_any _ _ (by omega)).mono ?_)
   rintro e w1 ⟨v0, rfl, hown0, hb0⟩
   go_wp2_with (fail)
   obtain ⟨wo, rfl⟩ : ∃ wo : World, wo = wr := ⟨_, rfl⟩
   have hz1' := hb0.size
   go_loopg [6, 27] ps.length (fun gk s6 s27 wr => ∃ k : Nat, k ≤ ps.length ∧ ps.length - k ≤ gk ∧ s27 = .int .i64 k ∧ wr.ownsRow wo.heap.size 157 2 s6 (sumP (ps.take k)) (childrenCs (catP (ps.take k))) ∧ Below wo.heap.size wo wr)
   case atStart => exact ⟨0, by omega, by omega, rfl, hown0, hb0⟩
   case round =>
    obtain ⟨k, hk2, hgk2, rfl, hown, hb⟩ := hrel
    have hz2' := hb.size
    have hsk := sumP_le ps k
    by_cases hlt2 : k < ps.length
    ·have hc1 := HC.out k hlt2
     have hc2 : wr.cell? ⟨g, k, none⟩ = _ := (hb.cell (p := ⟨g, k, none⟩) hg).trans hc1
     unfold Part.v at hc2
     have hok := HP.out ps[k] (List.getElem_mem hlt2)
     have hok1 := hok.1.below hb
     have hok2 := Lib.hid hok.2
     have hst := sumP_take hlt2
     have hsk1 := sumP_le ps (k + 1)
     have Hst : Hid (sumP (ps.take (k + 1)) = sumP (ps.take k) + ps[k].m) := hst
     have Hct : Hid (catP (ps.take (k + 1)) = catP (ps.take k) ++ ps[k].L) := catP_take hlt2
     rw [hst] at hsk1
     clear hst hok hc1
     generalize ps[k] = p at *
     generalize sumP (ps.take k) = skx at *
     generalize catP (ps.take k) = ck at *
     have hm1 : skx + p.m ≤ maxLen := by unfold maxLen; omega
     go_wp2_with (at_builtin; go_must (refine wpList_append_sl rfl _ _ 100 rfl wo.heap.size 157 i0 _ 2 24 Tryz.underlying100 hi hz0 hz1 hz2 rfl (by decide) _ _ _ rfl hown p.A p.m p.c (childrenCs p.L) rfl hok1 hok2.out (childrenCs_one _) hm1 ?b1 hz2' ?_))
     case b1 => omega
     intro v' w3 hown3 hgrow
     have hbw3 : Below wo.heap.size wo w3 := hb.grown hgrow hz2' (fun k hk => (hown.lt k hk).1)
     go_wp2_with (fail)
     go_roundg (ps.length - (k + 1))
     case measure => omega
     case rel => exact ⟨k + 1, by omega, by omega, by go_num, by rw [Hst.out, Hct.out, childrenCs_append]; exact hown3, hbw3⟩
    ·obtain rfl : k = ps.length := by omega
     rw [List.take_length] at hown
     go_wp2_with (fail)
     go_ret
     exact ⟨_, rfl, hown, hb⟩
end Go.Ev

set_option linter.unusedVariables false
set_option linter.unusedSimpArgs false
namespace Go.Ev
open Go.Proofs Go.RowKit
theorem childrenCs_head (c : Child) (L : List Child) (k : Bytes) : (childrenCs (c :: L)).set 0 (strV k) = childrenCs (headKey k (c :: L)) := by
 simp [childrenCs, headKey, childCs]
def OwnsC (w : World) (base : Nat) (v : Value) (L : List Child) : Prop := w.ownsRow base 157 2 v L.length (childrenCs L)
def ReplPost (L : List Child) (w : World) (e : Ending) (w' : World) : Prop := ∃ v', e = .returned v' ∧ OwnsC w' w.heap.size v' L ∧ Below w.heap.size w w'
set_option maxHeartbeats 1000000 in
set_option maxRecDepth 100000 in
theorem replC_any (A B : Option Addr) (n c m d i : Nat) (l x : List Child) (w : World) (hv : Sl w 2 (.slice A n c) n (childrenCs l)) (hx : Sl w 2 (.slice B m d) m (childrenCs x)) (hB : B = none → d = 0) (hn : n ≤ 10000) (hm : m ≤ 10000) (hi : i < n) :
  Calls Tryz.prog 86 #[.slice A n c, .int .i64 i, .slice B m d] w (ReplPost (headKey [] (l.take i ++ x ++ l.drop (i + 1))) w) := by
 have hl := hv.len2
 have hlx := hx.len2
 subst hl
 obtain ⟨A', c', e0, h0, h1, hA⟩ := id hv
 cases e0
 obtain ⟨blk, off, rfl, hbl, hcell⟩ := hA (by omega)
 clear hA h1 hcell
 obtain ⟨A3, hA3, hs3⟩ : ∃ A3, (if c = i + 1 then some ⟨blk, off, none⟩ else some (⟨blk, off + (i + 1) * 2, none⟩ : Addr)) = some A3 ∧ Sl w 2 (.slice (some A3) (l.length - (i + 1)) (c - (i + 1))) (l.length - (i + 1)) (childrenCs (l.drop (i + 1))) := by
  by_cases hc : c = i + 1
  ·refine ⟨_, if_pos hc, ?_⟩
   have : l.length - (i + 1) = 0 := by omega
   rw [this, List.drop_of_length_le (by omega)]
   exact Sl.nil ..
  ·refine ⟨_, if_neg hc, ?_⟩
   rw [← childrenCs_drop]
   exact Sl.drop hv (by omega)
 have hs1 : Sl w 2 (.slice (some ⟨blk, off, none⟩) i c) i (childrenCs (l.take i)) := by
  rw [← childrenCs_take]
  exact Sl.take hv (by omega)
 have hw1 : IntKind.i64.wrap ((i : Int) + 1) = (i : Int) + 1 := IntWalk.i64_in _ (by omega)
 have hb1 : (0 : Int) ≤ (i : Int) + 1 := by omega
 have htn : ((i : Int) + 1).toNat = i + 1 := by omega
 have hic : i ≤ c := by omega
 have hil : i + 1 ≤ l.length := by omega
 have hil' : (i : Int) + 1 ≤ (l.length : Int) := by omega
 have hlt : (i : Int) < (l.length : Int) := by omega
 have hnn : ¬ (i : Int) < 0 := by omega
 have hW : ∀ W, Below w.heap.size w W → ∀ g, W.heap[g]? = some (.cells #[.slice (some ⟨blk, off, none⟩) i c, .slice B m d, .slice (some A3) (l.length - (i + 1)) (c - (i + 1))] 100 (0, 0)) →
   Calls Tryz.prog 138 #[.slice (some ⟨g, 0, none⟩) 3 3] W fun e w' =>
    ∃ v', e = .returned v' ∧ OwnsC w' W.heap.size v' (l.take i ++ x ++ l.drop (i + 1)) ∧ Below W.heap.size W w' := by
  intro W hbW g hg
  have hgl : g < W.heap.size := (Array.getElem?_eq_some_iff.1 hg).1
  have hgc := fun k => cell_of_row W g k _ _ (0, 0) hg
  have := concatC_any g 3 [⟨some ⟨blk, off, none⟩, i, c, l.take i⟩, ⟨B, m, d, x⟩, ⟨some A3, l.length - (i + 1), c - (i + 1), l.drop (i + 1)⟩] W hgl (Nat.le_refl _) ?_ ?_ (by simp only [sumP]; omega) (by simp)
  ·refine this.mono ?_
   rintro e w' ⟨v', h1, h2, h3⟩
   refine ⟨v', h1, ?_, h3⟩
   unfold OwnsC
   have e1 : (l.take i ++ x ++ l.drop (i + 1)).length = sumP [⟨some ⟨blk, off, none⟩, i, c, l.take i⟩, ⟨B, m, d, x⟩, ⟨some A3, l.length - (i + 1), c - (i + 1), l.drop (i + 1)⟩] := by
    simp only [sumP, List.length_append, List.length_take, List.length_drop]; omega
   have e2 : catP [⟨some ⟨blk, off, none⟩, i, c, l.take i⟩, ⟨B, m, d, x⟩, ⟨some A3, l.length - (i + 1), c - (i + 1), l.drop (i + 1)⟩] = l.take i ++ x ++ l.drop (i + 1) := by
    simp [catP]
   rw [e1, ← e2]
   exact h2
  ·intro k hk
   rw [hgc]
   match k with
   | 0 => rfl
   | 1 => rfl
   | 2 => rfl
   | k + 3 => exact absurd hk (by simp)
  ·intro p hp
   simp only [List.mem_cons, List.not_mem_nil, or_false] at hp
   have hK : Keeps (fun _ => False) w W := Keeps.of_below hbW
   rcases hp with rfl | rfl | rfl
   ·exact ⟨hs1.below hbW, fun h => by cases h⟩
   ·exact ⟨hx.below hbW, hB⟩
   ·exact ⟨hs3.below hbW, fun h => by cases h⟩
 have HW := Lib.hid hW
 obtain ⟨L, hL⟩ : ∃ L, L = l.take i ++ x ++ l.drop (i + 1) := ⟨_, rfl⟩
 rw [← hL] at HW ⊢
 clear hW hL hs1 hs3 hv hx hlx
 go_enter Tryz.func86, Tryz.ntmps86
 go_wp2
 refine wp_region_any (by kernel_rfl) ?_
 change wpAny _ _ _ _ _ _ _ (World.drew _)
 try simp only [Act.put, lT, l0, lS]
 refine tA 0 ?_; try simp only [Act.put, lT, l0, lS]
 refine tA 1 ?_; try simp only [Act.put, lT, l0, lS]
 refine tA 2 ?_; try simp only [Act.put, lT, l0, lS]
 refine tA 3 ?_; try simp only [Act.put, lT, l0, lS]
 refine tA 4 ?_; try simp only [Act.put, lT, l0, lS]
 refine tA 5 ?_; try simp only [Act.put, lT, l0, lS]
 refine tA 6 ?_; try simp only [Act.put, lT, l0, lS]
 refine tA 7 ?_; try simp only [Act.put, lT, l0, lS]
 refine rd 8 (by kernel_rfl) rfl (fun K hK => ?_); go_simp; refine hK _ _ ?_; clear hK K
 refine rd 9 (by kernel_rfl) rfl (fun K hK => ?_); go_simp
 (go_must (refine (HW.out _ ((Below.refl _ w).alloc (Nat.le_refl _) _).drew _ (heap_alloc_new w _)).mono ?_); rintro e w1 ⟨v1, rfl, hown, hb1⟩)
 go_simp
 refine hK _ _ ?_
 clear hK K
 refine rd 10 (by kernel_rfl) rfl (fun K hK => ?_); go_simp; refine hK _ _ ?_; clear hK K
 refine wpAny_done (by kernel_rfl) ?_ _
 have hz1 := hb1.size
 simp at hz1
 have hbw : Below w.heap.size w w1 := ((Below.refl _ w).alloc (Nat.le_refl _) _).drew.trans (hb1.mono (by simp))
 unfold OwnsC at hown
 cases L with
 | nil =>
  obtain ⟨A2, c2, e2, _⟩ := Sl.of_own hown
  subst e2
  go_wp2
  go_ret
  exact ⟨_, rfl, own_base hown (by simp), hbw⟩
 | cons x0 L =>
  rcases hown.2 with ⟨_, h0⟩ | ⟨g, cap, cur, rfl, hbb, hheap, hnc, hcm, hcs, hcx⟩
  ·cases h0
  obtain ⟨u0, d0⟩ : ∃ u, w1.cell? ⟨g, 0, none⟩ = some u := ⟨_, by rw [cell_of_row w1 g _ cur _ (0, 0) hheap]; exact Array.getElem?_eq_getElem (by simp at hnc; omega)⟩
  have f00 := hown.frozenAt 0
  obtain ⟨o0, g0⟩ := hown.stored 0 (strV [])
  rw [childrenCs_head] at o0
  have hgb : w.heap.size ≤ g := by simp at hbb; omega
  have hbw2 : Below w.heap.size w (w1.setCell ⟨g, 0, none⟩ (strV [])) := hbw.setCell (p := ⟨g, 0, none⟩) hgb _
  have O0 := Lib.hid o0
  clear o0 g0 hcx hown
  go_wp2
  go_ret
  exact ⟨_, rfl, own_base (by simpa [headKey] using O0.out) (by simp), hbw2⟩
end Go.Ev
