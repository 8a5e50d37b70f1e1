/-
  Items are parted in two.
-/
import Derived.Test.YtmmdoohmebnkoaaGreatDoorMGwSet
import Derived.Test.YtmmdoohmebnkoaaGreatDoorMGvBranch
set_option linter.unusedVariables false
set_option linter.unusedSimpArgs false
namespace Go.Ev
open Go.Proofs Go.RowKit

theorem ItemsOk.take {l : List Item} (h : ItemsOk l) (i : Nat) : ItemsOk (l.take i) :=
  ⟨fun x hx => h.keys x (List.mem_of_mem_take hx), fun x hx => h.nums x (List.mem_of_mem_take hx), Nat.le_trans (layI_le l i) h.len, by have := h.few; rw [List.length_take]; omega⟩
theorem ItemsOk.drop {l : List Item} (h : ItemsOk l) (i : Nat) : ItemsOk (l.drop i) := by
  refine ⟨fun x hx => h.keys x (List.mem_of_mem_drop hx), fun x hx => h.nums x (List.mem_of_mem_drop hx), ?_, by have := h.few; rw [List.length_drop]; omega⟩
  have := h.len
  rw [← List.take_append_drop i l, layI_append, List.length_append] at this
  omega

def SplitPost (l : List Item) (w : World) (e : Ending) (w' : World) : Prop :=
  ∃ v1 v2, e = .returned (.tuple #[v1, v2]) ∧ w'.ownsRow w.heap.size 64 4 v1 (splitI l).1.length (itemsCs (splitI l).1) ∧ w'.ownsRow w.heap.size 64 4 v2 (splitI l).2.length (itemsCs (splitI l).2) ∧ Below w.heap.size w w'

theorem own_below {w w' : World} {base : Nat} {e : TypeId} {z : Nat} {v : Value} {n : Nat} {xs : List Value} (h : w.ownsRow base e z v n xs) (hb : Below w.heap.size w w') : w'.ownsRow base e z v n xs := own_keeps h (Keeps.of_below (S := fun _ => False) hb) (fun _ _ h => h)

set_option maxHeartbeats 1000000 in
set_option maxRecDepth 100000 in
theorem splitI_any (A : Option Addr) (n c : Nat) (l : List Item) (w : World) (hv : Sl w 4 (.slice A n c) n (itemsCs l)) (ho : ItemsOk l) (hn : n ≤ 90000) :
    Calls Tryz.prog 68 #[.slice A n c] w (SplitPost l w) := by
  have hl := hv.len4
  subst hl
  by_cases h2 : l.length < 2
  · have hC := Lib.hid (cloneI_all A _ c l w hv (by omega))
    have hS := Lib.hid (show splitI l = (l, []) by unfold splitI; rw [if_pos h2])
    go_enter Tryz.func68, Tryz.ntmps68
    go_wp2_with (fail)
    go_must (refine hC.out.mono ?_)
    rintro e w1 ⟨v', rfl, hown, hb1⟩
    go_wp2_with (fail)
    go_ret2
    exact ⟨v', _, rfl, by rw [hS.out]; exact hown, by rw [hS.out]; exact World.ownsRow_nil _ _ _ _, hb1⟩
  · have hS := Lib.hid (show splitI l = (l.take (bestAt (costI l) l.length), l.drop (bestAt (costI l) l.length)) by unfold splitI; rw [if_neg h2])
    have h2' : ¬ (l.length : Int) < 2 := by omega
    obtain ⟨A', c', e0, h0, h1, hA⟩ := id hv
    cases e0
    obtain ⟨blk, off, rfl, hbl, hcell⟩ := hA (by omega)
    clear hA h1 hcell
    have hbest := Lib.hid (bestAt_spec (costI l) (show 2 ≤ l.length by omega))
    have hZ1 := Lib.hid (fun i W h => sizeI_any (some ⟨blk, off, none⟩) i c (l.take i) W h (ho.take i))
    have hZ2 := Lib.hid (fun i W h => sizeI_any (some ⟨blk, off + i * 4, none⟩) (l.length - i) (c - i) (l.drop i) W h (ho.drop i))
    go_enter Tryz.func68, Tryz.ntmps68
    go_wp2_with (fail)
    go_loopg [4, 5, 6] l.length (fun g s4 s5 s6 wr => ∃ best k sz : Nat, s4 = .int .i64 best ∧ s5 = .int .i64 sz ∧ s6 = .int .i64 k ∧ 1 ≤ k ∧ k ≤ l.length ∧ l.length - k ≤ g ∧ best < k ∧ (best ≠ 0 → sz = costI l best) ∧ sz ≤ 100000 ∧ Hid (bestFrom (costI l) (l.length - k) k best = bestAt (costI l) l.length) ∧ Below w.heap.size w wr)
    case atStart => exact ⟨0, 1, 0, rfl, rfl, rfl, by omega, by omega, by omega, by omega, by simp, by omega, rfl, Below.refl _ _⟩
    case round =>
      obtain ⟨best, k, sz, rfl, rfl, rfl, hk1, hk2, hg, hbk, hsz, hszb, hI, hb⟩ := hrel
      have hz := hb.size
      by_cases hlt : k < l.length
      · have hst := Lib.hid (bestFrom_step (costI l) (best := best) hlt)
        have hvw := hv.below (hb.mono (Nat.le_refl _))
        have q1 := hZ1.out k _ (by rw [← itemsCs_take]; exact Sl.take hvw.drew (by omega))
        have q2 := fun W (h : Below wr.heap.size wr.drew W) => hZ2.out k W (by rw [← itemsCs_drop]; exact Sl.drop (Sl.below hvw.drew h) (by omega))
        have Q1 := Lib.hid q1
        have Q2 := Lib.hid q2
        clear q1 q2
        have hci1 : ¬ (c = k) := by omega
        have hkc : k ≤ c := by omega
        have hkl : k ≤ l.length := by omega
        have hkk : (0 : Int) ≤ (k : Int) ∧ (k : Int) ≤ (l.length : Int) := by omega
        obtain ⟨hkk1, hkk2⟩ := hkk
        go_wp2
        refine wp_region_any (by kernel_rfl) ?_
        change wpAny _ _ _ _ _ _ _ (World.drew _)
        try simp only [Act.put, List.setIfInBounds_toArray, List.set_cons_zero, List.set_cons_succ]
        refine wpAny_take (oi := { dst := _, op := _, type := _, pos := _, after := _, guard := _ }) (i := 0) (v := ?_) rfl (by kernel_rfl) (by kernel_rfl) (by kernel_rfl) (fun _ _ _ h => h) (Or.inl ⟨by rfl, ?hy⟩) ?_
        case hy => (intro w; go_simp; try with_reducible rfl)
        try simp only [Act.put, List.setIfInBounds_toArray, List.set_cons_zero, List.set_cons_succ]
        try simp only [Act.put, List.setIfInBounds_toArray, List.set_cons_zero, List.set_cons_succ]
        refine wpAny_take (oi := { dst := _, op := _, type := _, pos := _, after := _, guard := _ }) (i := 1) (v := ?_) rfl (by kernel_rfl) (by kernel_rfl) (by kernel_rfl) (fun _ _ _ h => h) (Or.inl ⟨by rfl, ?hy⟩) ?_
        case hy => (intro w; go_simp; try with_reducible rfl)
        try simp only [Act.put, List.setIfInBounds_toArray, List.set_cons_zero, List.set_cons_succ]
        try simp only [Act.put, List.setIfInBounds_toArray, List.set_cons_zero, List.set_cons_succ]
        refine wpAny_take (oi := { dst := _, op := _, type := _, pos := _, after := _, guard := _ }) (i := 2) (v := ?_) rfl (by kernel_rfl) (by kernel_rfl) (by kernel_rfl) (fun _ _ _ h => h) (Or.inl ⟨by rfl, ?hy⟩) ?_
        case hy => (intro w; go_simp; try with_reducible rfl)
        try simp only [Act.put, List.setIfInBounds_toArray, List.set_cons_zero, List.set_cons_succ]
        try simp only [Act.put, List.setIfInBounds_toArray, List.set_cons_zero, List.set_cons_succ]
        refine wpAny_take (oi := { dst := _, op := _, type := _, pos := _, after := _, guard := _ }) (i := 4) (v := ?_) rfl (by kernel_rfl) (by kernel_rfl) (by kernel_rfl) (fun _ _ _ h => h) (Or.inl ⟨by rfl, ?hy⟩) ?_
        case hy => (intro w; go_simp; try with_reducible rfl)
        try simp only [Act.put, List.setIfInBounds_toArray, List.set_cons_zero, List.set_cons_succ]
        try simp only [Act.put, List.setIfInBounds_toArray, List.set_cons_zero, List.set_cons_succ]
        refine wpAny_take (oi := { dst := _, op := _, type := _, pos := _, after := _, guard := _ }) (i := 5) (v := ?_) rfl (by kernel_rfl) (by kernel_rfl) (by kernel_rfl) (fun _ _ _ h => h) (Or.inl ⟨by rfl, ?hy⟩) ?_
        case hy => (intro w; go_simp; try with_reducible rfl)
        try simp only [Act.put, List.setIfInBounds_toArray, List.set_cons_zero, List.set_cons_succ]
        try simp only [Act.put, List.setIfInBounds_toArray, List.set_cons_zero, List.set_cons_succ]
        refine wpAny_take (oi := { dst := _, op := _, type := _, pos := _, after := _, guard := _ }) (i := 6) (v := ?_) rfl (by kernel_rfl) (by kernel_rfl) (by kernel_rfl) (fun _ _ _ h => h) (Or.inl ⟨by rfl, ?hy⟩) ?_
        case hy => (intro w; go_simp; try with_reducible rfl)
        try simp only [Act.put, List.setIfInBounds_toArray, List.set_cons_zero, List.set_cons_succ]
        refine wpAny_ready (rs := [3]) (by kernel_rfl) (by simp) (AllReady.cons (o := { dst := _, op := _, type := _, pos := _, after := _, guard := _ }) rfl (fun K hK => ?_) AllReady.nil)
        go_simp
        (go_must (refine Q1.out.mono ?_); rintro e w1 ⟨rfl, hb1⟩)
        go_simp
        refine hK _ _ ?_
        clear hK K
        refine wpAny_ready (rs := [7]) (by kernel_rfl) (by simp) (AllReady.cons (o := { dst := _, op := _, type := _, pos := _, after := _, guard := _ }) rfl (fun K hK => ?_) AllReady.nil)
        go_simp
        (go_must (refine (Q2.out _ hb1).mono ?_); rintro e w2 ⟨rfl, hb2⟩)
        go_simp
        refine hK _ _ ?_
        clear hK K
        refine wpAny_ready (rs := [8]) (by kernel_rfl) (by simp) (AllReady.cons (o := { dst := _, op := _, type := _, pos := _, after := _, guard := _ }) rfl (fun K hK => ?_) AllReady.nil)
        go_simp
        refine hK _ _ ?_
        clear hK K
        refine wpAny_ready (rs := [9]) (by kernel_rfl) (by simp) (AllReady.cons (o := { dst := _, op := _, type := _, pos := _, after := _, guard := _ }) rfl (fun K hK => ?_) AllReady.nil)
        go_simp
        refine hK _ _ ?_
        clear hK K
        refine wpAny_done (by kernel_rfl) ?_ _
        have hmx : max ((List.length (layI (List.take k l)) : Nat) : Int) (List.length (layI (List.drop k l)) : Nat) = ((costI l k : Nat) : Int) := by unfold costI; omega
        have hcb : costI l k ≤ 100000 := by
          have h1 := (ho.take k).len
          have h2 := (ho.drop k).len
          unfold costI
          omega
        rw [hmx]
        have hbw : Below w.heap.size w w2 := hb.drew.trans ((hb1.mono (by simp; omega)).trans (hb2.mono (by have := hb1.size; simp at this; omega)))
        clear hmx Q1 Q2 hZ1 hZ2
        by_cases hb0 : best = 0
        · have e1 : ((best : Int) == 0) = true := by simp [hb0]
          have hI2 := Lib.hid (hst.out.symm.trans hI)
          rw [if_pos (.inl hb0)] at hI2
          clear hst hI hsz hb0
          go_wp2
          go_roundg (l.length - (k + 1))
          case measure => omega
          case rel => exact ⟨k, k + 1, costI l k, rfl, rfl, by go_num, by omega, by omega, by omega, by omega, fun _ => rfl, hcb, hI2, hbw⟩
        · have e1 : ((best : Int) == 0) = false := by simpa using hb0
          have hs0 := hsz hb0
          by_cases hcl : costI l k < sz
          · have hI2 := Lib.hid (hst.out.symm.trans hI)
            rw [if_pos (.inr (by omega))] at hI2
            have hcl' : ((costI l k : Nat) : Int) < (sz : Int) := by omega
            clear hst hI hsz hb0 hs0 hcl
            go_wp2
            go_roundg (l.length - (k + 1))
            case measure => omega
            case rel => exact ⟨k, k + 1, costI l k, rfl, rfl, by go_num, by omega, by omega, by omega, by omega, fun _ => rfl, hcb, hI2, hbw⟩
          · have hI2 := Lib.hid (hst.out.symm.trans hI)
            rw [if_neg (by rw [← hs0]; intro h; rcases h with h | h; exact hb0 h; exact hcl h)] at hI2
            have hcl' : ¬ ((costI l k : Nat) : Int) < (sz : Int) := by omega
            have HS0 := Lib.hid hsz
            clear hst hI hsz hb0 hs0 hcl
            go_wp2
            go_roundg (l.length - (k + 1))
            case measure => omega
            case rel => exact ⟨best, k + 1, sz, rfl, rfl, by go_num, by omega, by omega, by omega, by omega, HS0.out, hszb, hI2, hbw⟩
      · obtain rfl : k = l.length := by omega
        have hbe : best = bestAt (costI l) l.length := (bestFrom_end _ _ _).symm.trans hI.out
        have hbs := hbest.out
        rw [← hbe] at hS hbs
        obtain ⟨hb1', hb2', _⟩ := hbs
        clear hbe hI hsz hbest hg
        have hvw := hv.below hb
        have hC1 := Lib.hid (cloneI_all (some ⟨blk, off, none⟩) best c (l.take best) wr.drew (by rw [← itemsCs_take]; exact Sl.take hvw.drew (by omega)) (by omega))
        have hC2 := Lib.hid (fun W (h : Below wr.heap.size wr.drew W) => cloneI_all (some ⟨blk, off + best * 4, none⟩) (l.length - best) (c - best) (l.drop best) W (by rw [← itemsCs_drop]; exact Sl.drop (Sl.below hvw.drew h) (by omega)) (by omega))
        have hci1 : ¬ (c = best) := by omega
        have hkc : best ≤ c := by omega
        have hkl : best ≤ l.length := by omega
        clear hZ1 hZ2
        go_wp2
        refine wp_region_any (by kernel_rfl) ?_
        change wpAny _ _ _ _ _ _ _ (World.drew _)
        try simp only [Act.put, List.setIfInBounds_toArray, List.set_cons_zero, List.set_cons_succ]
        refine wpAny_take (oi := { dst := _, op := _, type := _, pos := _, after := _, guard := _ }) (i := 0) (v := ?_) rfl (by kernel_rfl) (by kernel_rfl) (by kernel_rfl) (fun _ _ _ h => h) (Or.inl ⟨by rfl, ?hy⟩) ?_
        case hy => (intro w; go_simp; try with_reducible rfl)
        try simp only [Act.put, List.setIfInBounds_toArray, List.set_cons_zero, List.set_cons_succ]
        try simp only [Act.put, List.setIfInBounds_toArray, List.set_cons_zero, List.set_cons_succ]
        refine wpAny_take (oi := { dst := _, op := _, type := _, pos := _, after := _, guard := _ }) (i := 1) (v := ?_) rfl (by kernel_rfl) (by kernel_rfl) (by kernel_rfl) (fun _ _ _ h => h) (Or.inl ⟨by rfl, ?hy⟩) ?_
        case hy => (intro w; go_simp; try with_reducible rfl)
        try simp only [Act.put, List.setIfInBounds_toArray, List.set_cons_zero, List.set_cons_succ]
        try simp only [Act.put, List.setIfInBounds_toArray, List.set_cons_zero, List.set_cons_succ]
        refine wpAny_take (oi := { dst := _, op := _, type := _, pos := _, after := _, guard := _ }) (i := 2) (v := ?_) rfl (by kernel_rfl) (by kernel_rfl) (by kernel_rfl) (fun _ _ _ h => h) (Or.inl ⟨by rfl, ?hy⟩) ?_
        case hy => (intro w; go_simp; try with_reducible rfl)
        try simp only [Act.put, List.setIfInBounds_toArray, List.set_cons_zero, List.set_cons_succ]
        try simp only [Act.put, List.setIfInBounds_toArray, List.set_cons_zero, List.set_cons_succ]
        refine wpAny_take (oi := { dst := _, op := _, type := _, pos := _, after := _, guard := _ }) (i := 4) (v := ?_) rfl (by kernel_rfl) (by kernel_rfl) (by kernel_rfl) (fun _ _ _ h => h) (Or.inl ⟨by rfl, ?hy⟩) ?_
        case hy => (intro w; go_simp; try with_reducible rfl)
        try simp only [Act.put, List.setIfInBounds_toArray, List.set_cons_zero, List.set_cons_succ]
        try simp only [Act.put, List.setIfInBounds_toArray, List.set_cons_zero, List.set_cons_succ]
        refine wpAny_take (oi := { dst := _, op := _, type := _, pos := _, after := _, guard := _ }) (i := 5) (v := ?_) rfl (by kernel_rfl) (by kernel_rfl) (by kernel_rfl) (fun _ _ _ h => h) (Or.inl ⟨by rfl, ?hy⟩) ?_
        case hy => (intro w; go_simp; try with_reducible rfl)
        try simp only [Act.put, List.setIfInBounds_toArray, List.set_cons_zero, List.set_cons_succ]
        try simp only [Act.put, List.setIfInBounds_toArray, List.set_cons_zero, List.set_cons_succ]
        refine wpAny_take (oi := { dst := _, op := _, type := _, pos := _, after := _, guard := _ }) (i := 6) (v := ?_) rfl (by kernel_rfl) (by kernel_rfl) (by kernel_rfl) (fun _ _ _ h => h) (Or.inl ⟨by rfl, ?hy⟩) ?_
        case hy => (intro w; go_simp; try with_reducible rfl)
        try simp only [Act.put, List.setIfInBounds_toArray, List.set_cons_zero, List.set_cons_succ]
        refine wpAny_ready (rs := [3]) (by kernel_rfl) (by simp) (AllReady.cons (o := { dst := _, op := _, type := _, pos := _, after := _, guard := _ }) rfl (fun K hK => ?_) AllReady.nil)
        go_simp
        (go_must (refine hC1.out.mono ?_); rintro e w1 ⟨v1, rfl, hown1, hb1⟩)
        go_simp
        refine hK _ _ ?_
        clear hK K
        refine wpAny_ready (rs := [7]) (by kernel_rfl) (by simp) (AllReady.cons (o := { dst := _, op := _, type := _, pos := _, after := _, guard := _ }) rfl (fun K hK => ?_) AllReady.nil)
        go_simp
        (go_must (refine (hC2.out _ hb1).mono ?_); rintro e w2 ⟨v2, rfl, hown2, hb2⟩)
        go_simp
        refine hK _ _ ?_
        clear hK K
        refine wpAny_ready (rs := [8]) (by kernel_rfl) (by simp) (AllReady.cons (o := { dst := _, op := _, type := _, pos := _, after := _, guard := _ }) rfl (fun K hK => ?_) AllReady.nil)
        go_simp
        refine hK _ _ ?_
        clear hK K
        refine wpAny_ready (rs := [9]) (by kernel_rfl) (by simp) (AllReady.cons (o := { dst := _, op := _, type := _, pos := _, after := _, guard := _ }) rfl (fun K hK => ?_) AllReady.nil)
        go_simp
        refine hK _ _ ?_
        clear hK K
        refine wpAny_done (by kernel_rfl) ?_ _
        have hz1 := hb1.size
        simp at hz1
        have hbw : Below w.heap.size w w2 := hb.drew.trans ((hb1.mono (by simp; omega)).trans (hb2.mono (by omega)))
        go_wp2
        go_ret2
        exact ⟨v1, v2, rfl, by rw [hS.out]; exact own_base (own_below hown1 hb2) (by simp; omega), by rw [hS.out]; exact own_base hown2 (by omega), hbw⟩
end Go.Ev
