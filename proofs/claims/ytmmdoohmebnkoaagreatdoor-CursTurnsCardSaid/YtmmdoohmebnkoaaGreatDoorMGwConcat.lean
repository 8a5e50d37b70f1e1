/-
  Below which child a key stands. Rows of children side by side.
-/
import Derived.Test.YtmmdoohmebnkoaaGreatDoorMGwGetC
import Derived.Test.YtmmdoohmebnkoaaGreatDoorMGvBranch
import Derived.Lib.AppendZerosOnto
set_option linter.unusedVariables false
set_option linter.unusedSimpArgs false
namespace Go.Ev
open Go.Proofs Go.RowKit

def MidC (k : Bytes) (l : List Child) (lo hi : Nat) : Prop := lo ≤ below k l ∧ below k l ≤ hi

set_option maxHeartbeats 1000000 in
set_option maxRecDepth 100000 in
theorem findC_any (A : Option Addr) (n c : Nat) (l : List Child) (k : Bytes) (w : World) (hv : Sl w 2 (.slice A n c) n (childrenCs l)) (hn : n ≤ 100000) (hr : rightC l = true) :
    Calls Tryz.prog 24 #[.slice A n c, strV k] w fun e w' => e = .returned (.int .i64 (findC k l : Nat)) ∧ w' = w := by
  have hl := hv.len2
  subst hl
  have hA := below_le k l
  have hB := Lib.hid (below_right (k := k) hr)
  go_enter Tryz.func24, Tryz.ntmps24
  go_wp2
  go_loopg [5, 6, 7] l.length (fun g s5 s6 s7 wr => wr = w ∧ ∃ at' lo hi : Nat, s5 = .int .i64 at' ∧ s6 = .int .i64 lo ∧ s7 = .int .i64 hi ∧ lo ≤ hi ∧ hi ≤ l.length ∧ hi - lo ≤ g ∧ (lo = 0 ∨ lo = at' + 1) ∧ Hid (MidC k l lo hi))
  case atStart => exact ⟨rfl, 0, 0, l.length, rfl, rfl, rfl, by omega, by omega, by omega, by omega, ⟨by omega, by omega⟩⟩
  case round =>
    obtain ⟨rfl, at', lo, hi, rfl, rfl, rfl, hlh, hin, hg, hat, hM⟩ := hrel
    by_cases hlt : lo < hi
    · obtain ⟨A', c', e0, h0, h1, h2⟩ := hv
      cases e0
      obtain ⟨blk, off, rfl, hbl, hcell⟩ := h2 (by omega)
      obtain ⟨m, hm⟩ : ∃ m, m = lo + (hi - lo) / 2 := ⟨_, rfl⟩
      have hk' : m < l.length := by omega
      obtain ⟨i0, i1⟩ := child_2 (w := wr) fun j u hu => child_cells hcell hk' j u hu
      have hx : l[m]? = some l[m] := List.getElem?_eq_getElem hk'
      generalize l[m] = x at *
      clear hcell h2 h1
      have hmI : (lo : Int) + ((hi : Int) - (lo : Int)) / 2 = (m : Int) := by omega
      have hmle : lo ≤ m ∧ m < hi := by omega
      have hm0 : (0 : Int) ≤ (m : Int) ∧ (m : Int) < (l.length : Int) := by omega
      have hd0 : (0 : Int) ≤ (hi : Int) - (lo : Int) := by omega
      obtain ⟨hm1, hm2⟩ := hm0
      obtain ⟨hml, hmr⟩ := hmle
      have HM := Lib.hid hm
      clear hm
      cases hq : lessB k x.key
      · have hM2 : Hid (MidC k l (m + 1) hi) := by
          refine ⟨?_, hM.out.2⟩
          refine Nat.lt_of_not_le fun h => ?_
          have := below_ge' hr h hx
          rw [hq] at this
          cases this
        have hor : lessB x.key k = true ∨ (lessB x.key k = false ∧ (x.key == k) = true) := by
          rcases lessB_total x.key k with h | h | h
          · exact .inl h
          · exact .inr ⟨by rw [h]; exact lessB_irrefl _, by simp [h]⟩
          · rw [hq] at h; cases h
        have Hx := Lib.hid hx
        clear hx hM hq
        rcases hor with hq1 | ⟨hq1, hq2⟩
        all_goals
          go_wp2
          go_roundg (hi - (m + 1))
          case measure => omega
          case rel => exact ⟨rfl, m, m + 1, hi, rfl, by go_num, rfl, by omega, by omega, by omega, by omega, hM2⟩
      · have hM2 : Hid (MidC k l lo m) := by
          refine ⟨hM.out.1, Nat.le_of_not_lt fun h => ?_⟩
          obtain ⟨y, h1, h2⟩ := below_lt h
          rw [hx] at h1
          cases h1
          rw [hq] at h2
          cases h2
        have hq1 := lessB_asymm hq
        have hq2 : (x.key == k) = false := by simpa using fun e => lessB_ne hq e.symm
        clear hx hM hq
        go_wp2
        go_roundg (m - lo)
        case measure => omega
        case rel => exact ⟨rfl, at', lo, m, rfl, rfl, rfl, by omega, by omega, by omega, by omega, hM2⟩
    · obtain rfl : hi = lo := by omega
      have hat2 : at' = findC k l := by
        obtain ⟨m1, m2⟩ := hM.out
        have := hB.out
        omega
      subst hat2
      clear hM hA
      go_wp2
      go_ret
      exact ⟨rfl, rfl⟩
end Go.Ev

namespace Go.Ev
open Go.Proofs Go.RowKit

theorem infoC : (Tryz.prog.info? 98).map (fun i => (i.zero, i.size, i.bytes)) = some (some (.agg #[.string ⟨#[]⟩, .int .i64 0]), 2, 24) := by kernel_rfl

set_option maxHeartbeats 1000000 in
set_option maxRecDepth 100000 in
theorem growC_any (n : Nat) (w : World) (hn : n ≤ 1000000) :
    Calls Tryz.prog 140 #[.slice none 0 0, .int .i64 n] w fun e w' => ∃ v', e = .returned v' ∧ w'.ownsRow w.heap.size 98 2 v' 0 [] ∧ Below w.heap.size w w' := by
  obtain ⟨i0, hi, hz0, hz1, hz2⟩ := info_parts infoC
  by_cases h0 : n = 0
  · subst h0
    go_enter Tryz.func140, Tryz.ntmps140
    go_wp2
    go_ret
    exact ⟨_, rfl, World.ownsRow_nil _ _ _ _, Below.refl _ _⟩
  · have hpos : (0 : Int) < (n : Int) := by omega
    have hold : (Builtin.firstCells i0.size 0 (.slice none 0 0)).run Tryz.prog w.drew = .ok ([] : List Value).toArray w.drew := rfl
    have hrz := fun ty => Lib.run_append_grow_zeros w 57 3 ty 98 i0 _ .i64 .i64 Tryz.underlying57 Tryz.underlying3 hi hz0 none 0 0 [] hold n (by omega) (by omega) (by omega) (by omega) (by rw [hz2]; omega)
      (by rw [hz2, Nat.zero_add]; exact growslice_fits (by omega) (by omega))
    simp only [Nat.zero_add] at hrz
    have hGn : n ≤ grownCap w n 0 98 := grownCap_ge w _ _ _
    have hGm := grownCap_le_maxLen w n 0 98 (by unfold maxLen; omega)
    have hGm2 := hGm
    unfold maxLen at hGm2
    generalize grownCap w n 0 98 = G at *
    have hsz : ((([] : List Value).toArray ++ Builtin.zeroCells (Value.agg #[.string ⟨#[]⟩, .int .i64 0]).cells n ++ Builtin.zeroCells (Value.agg #[.string ⟨#[]⟩, .int .i64 0]).cells (G - n))).size = G * 2 := by
      have h2 : (Value.agg #[Value.string ⟨#[]⟩, Value.int .i64 0]).cells.size = 2 := rfl
      simp only [Array.size_append, List.size_toArray, List.length_nil, Builtin.zeroCells, Array.size_map, Array.size_range, h2]
      omega
    generalize (([] : List Value).toArray ++ Builtin.zeroCells (Value.agg #[.string ⟨#[]⟩, .int .i64 0]).cells n ++ Builtin.zeroCells (Value.agg #[.string ⟨#[]⟩, .int .i64 0]).cells (G - n)) = ROW at *
    have hnew : (w.drew.alloc (.cells ROW 98)).heap[w.heap.size]? = some (.cells ROW 98 (0, 0)) := heap_alloc_new w.drew _
    have hown : (w.drew.alloc (.cells ROW 98)).ownsRow w.heap.size 98 2 (.slice (some ⟨w.heap.size, 0, none⟩) 0 G) 0 [] := own_of hnew (Nat.le_refl _) (by omega) hGm hsz rfl (by intro j hj; omega)
    have hbel : Below w.heap.size w (w.drew.alloc (.cells ROW 98)) := ((Below.refl _ w).drew.alloc (Nat.le_refl _) _)
    have HO := Lib.hid hown
    have HZ := Lib.hid hsz
    clear hown hsz hnew hz0 hz1 hz2 h0
    go_enter Tryz.func140, Tryz.ntmps140
    go_wp2_with (at_builtin; go_must (refine Lib.wpList_append_run _ rfl _ _ _ _ rfl _ _ rfl rfl _ _ (hrz _) ?_))
    go_ret
    exact ⟨_, rfl, HO.out, hbel⟩

structure Part where
  A : Option Addr
  m : Nat
  c : Nat
  L : List Child
deriving Inhabited
def Part.v (p : Part) : Value := .slice p.A p.m p.c
def Part.ok (w : World) (p : Part) : Prop := Sl w 2 (.slice p.A p.m p.c) p.m (childrenCs p.L) ∧ (p.A = none → p.c = 0)
def sumP : List Part → Nat
  | [] => 0
  | p :: l => p.m + sumP l
def catP : List Part → List Child
  | [] => []
  | p :: l => p.L ++ catP l
theorem sumP_append : ∀ a b : List Part, sumP (a ++ b) = sumP a + sumP b
  | [], b => by simp [sumP]
  | p :: a, b => by simp only [List.cons_append, sumP, sumP_append a b]; omega
theorem catP_append : ∀ a b : List Part, catP (a ++ b) = catP a ++ catP b
  | [], b => rfl
  | p :: a, b => by simp only [List.cons_append, catP, catP_append a b, List.append_assoc]
theorem sumP_take {l : List Part} {k : Nat} (h : k < l.length) : sumP (l.take (k + 1)) = sumP (l.take k) + l[k].m := by
  rw [List.take_succ_eq_append_getElem h, sumP_append]; rfl
theorem catP_take {l : List Part} {k : Nat} (h : k < l.length) : catP (l.take (k + 1)) = catP (l.take k) ++ l[k].L := by
  rw [List.take_succ_eq_append_getElem h, catP_append]; simp [catP]
theorem sumP_le (l : List Part) (k : Nat) : sumP (l.take k) ≤ sumP l := by
  have : sumP l = sumP (l.take k) + sumP (l.drop k) := by rw [← sumP_append, List.take_append_drop]
  omega

set_option maxHeartbeats 1000000 in
set_option maxRecDepth 100000 in
theorem concatC_any (g c : Nat) (ps : List Part) (w : World) (hg : g < w.heap.size) (hc : ps.length ≤ c) (hcell : ∀ k (h : k < ps.length), w.cell? ⟨g, k, none⟩ = some ps[k].v) (hp : ∀ p ∈ ps, p.ok w) (hs : sumP ps ≤ 100000) (hl : ps.length ≤ 1000) :
    Calls Tryz.prog 105 #[.slice (some ⟨g, 0, none⟩) ps.length c] w fun e w' =>
      ∃ v', e = .returned v' ∧ w'.ownsRow w.heap.size 98 2 v' (sumP ps) (childrenCs (catP ps)) ∧ Below w.heap.size w w' := by
  obtain ⟨i0, hi, hz0, hz1, hz2⟩ := info_parts infoC
  have HP := Lib.hid hp
  have HC := Lib.hid hcell
  clear hp hcell
  go_enter Tryz.func105, Tryz.ntmps105
  go_wp2
  go_loopg [3, 11] ps.length (fun gk s3 s11 wr => wr = w ∧ ∃ k : Nat, k ≤ ps.length ∧ ps.length - k ≤ gk ∧ s11 = .int .i64 k ∧ s3 = .int .i64 (sumP (ps.take k)))
  case atStart => exact ⟨rfl, 0, by omega, by omega, rfl, rfl⟩
  case round =>
    obtain ⟨rfl, k, hk, hgk, rfl, rfl⟩ := hrel
    have hsk := sumP_le ps k
    by_cases hlt : k < ps.length
    · have hc1 := HC.out k hlt
      have hst := sumP_take hlt
      have hsk1 := sumP_le ps (k + 1)
      unfold Part.v at hc1
      have Hst : Hid (sumP (ps.take (k + 1)) = sumP (ps.take k) + ps[k].m) := hst
      rw [hst] at hsk1
      clear hst
      generalize ps[k] = p at *
      generalize sumP (ps.take k) = sk at *
      go_wp2
      go_roundg (ps.length - (k + 1))
      case measure => omega
      case rel => exact ⟨rfl, k + 1, by omega, by omega, by go_num, by rw [Hst.out]; go_num⟩
    · obtain rfl : k = ps.length := by omega
      have ht : sumP (ps.take ps.length) = sumP ps := by rw [List.take_length]
      rw [ht]
      clear ht hsk
      go_wp2_with (fail)
      go_must (refine (growC_any _ _ (by omega)).mono ?_)
      rintro e w1 ⟨v0, rfl, hown0, hb0⟩
      go_wp2_with (fail)
      obtain ⟨wo, rfl⟩ : ∃ wo : World, wo = wr := ⟨_, rfl⟩
      have hz1' := hb0.size
      go_loopg [6, 27] ps.length (fun gk s6 s27 wr => ∃ k : Nat, k ≤ ps.length ∧ ps.length - k ≤ gk ∧ s27 = .int .i64 k ∧ wr.ownsRow wo.heap.size 98 2 s6 (sumP (ps.take k)) (childrenCs (catP (ps.take k))) ∧ Below wo.heap.size wo wr)
      case atStart => exact ⟨0, by omega, by omega, rfl, hown0, hb0⟩
      case round =>
        obtain ⟨k, hk2, hgk2, rfl, hown, hb⟩ := hrel
        have hz2' := hb.size
        have hsk := sumP_le ps k
        by_cases hlt2 : k < ps.length
        · have hc1 := HC.out k hlt2
          have hc2 : wr.cell? ⟨g, k, none⟩ = _ := (hb.cell (p := ⟨g, k, none⟩) hg).trans hc1
          unfold Part.v at hc2
          have hok := HP.out ps[k] (List.getElem_mem hlt2)
          have hok1 := hok.1.below hb
          have hok2 := Lib.hid hok.2
          have hst := sumP_take hlt2
          have hsk1 := sumP_le ps (k + 1)
          have Hst : Hid (sumP (ps.take (k + 1)) = sumP (ps.take k) + ps[k].m) := hst
          have Hct : Hid (catP (ps.take (k + 1)) = catP (ps.take k) ++ ps[k].L) := catP_take hlt2
          rw [hst] at hsk1
          clear hst hok hc1
          generalize ps[k] = p at *
          generalize sumP (ps.take k) = sk at *
          generalize catP (ps.take k) = ck at *
          have hm1 : sk + p.m ≤ maxLen := by unfold maxLen; omega
          go_wp2_with (at_builtin; go_must (refine wpList_append_sl rfl _ _ 57 rfl wo.heap.size 98 i0 _ 2 24 Tryz.underlying57 hi hz0 hz1 hz2 rfl (by decide) _ _ _ rfl hown p.A p.m p.c (childrenCs p.L) rfl hok1 hok2.out (childrenCs_one _) hm1 ?b1 hz2' ?_))
          case b1 => omega
          intro v' w3 hown3 hgrow
          have hbw3 : Below wo.heap.size wo w3 := hb.grown hgrow hz2' (fun k hk => (hown.lt k hk).1)
          go_wp2_with (fail)
          go_roundg (ps.length - (k + 1))
          case measure => omega
          case rel => exact ⟨k + 1, by omega, by omega, by go_num, by rw [Hst.out, Hct.out, childrenCs_append]; exact hown3, hbw3⟩
        · obtain rfl : k = ps.length := by omega
          rw [List.take_length] at hown
          go_wp2_with (fail)
          go_ret
          exact ⟨_, rfl, hown, hb⟩
end Go.Ev
