/-
  Are items right, and do their keys rise.
-/
import Derived.Test.YtmmdoohmebnkoaaGreatDoorMGwRight
import Derived.Test.YtmmdoohmebnkoaaGreatDoorMGvRise
import Derived.WalkLawsBesides
set_option linter.unusedVariables false
set_option linter.unusedSimpArgs false
namespace Go.Ev
open Go.Proofs Go.RowKit

theorem item_4 {w : World} {blk o : Nat} {x : Item} (h : ∀ j u, (itemCs x)[j]? = some u → w.cell? ⟨blk, o + j, none⟩ = some u) :
    w.cell? ⟨blk, o, none⟩ = some (strV x.key) ∧ w.cell? ⟨blk, o + 1, none⟩ = some (strV x.val) ∧ w.cell? ⟨blk, o + 2, none⟩ = some (.int .i64 x.over) ∧ w.cell? ⟨blk, o + 3, none⟩ = some (.int .i64 x.size) :=
  ⟨h 0 _ rfl, h 1 _ rfl, h 2 _ rfl, h 3 _ rfl⟩

def KeysOk (l : List Item) : Prop := ∀ x ∈ l, x.key.length ≤ 9223372036854775807 ∧ x.val.length ≤ 9223372036854775807

set_option maxHeartbeats 4000000 in
set_option maxRecDepth 100000 in
theorem rise_any (A : Option Addr) (n c : Nat) (l : List Item) (w : World) (hv : Sl w 4 (.slice A n c) n (itemsCs l)) (hn : n ≤ 100000) (hK : KeysOk l) :
    Calls Tryz.prog 98 #[.slice A n c] w fun e w' => e = .returned (.bool (riseI l)) ∧ Below w.heap.size w w' := by
  have hl1 : l.length = n := by obtain ⟨_, _, e, _, h1, _⟩ := hv; rw [itemsCs_len] at h1; omega
  go_enter Tryz.func98, Tryz.ntmps98
  go_wp2
  go_loopw [7] (fun i wr => ∃ (k : Nat), k ≤ n ∧ i = .int .i64 (k : Int) ∧ Hid (riseI (l.take k) = true) ∧ Below w.heap.size w wr) (fun i _ => n - (Go.RowKit.intOf i).toNat)
  case atStart => exact ⟨0, by omega, rfl, rfl, Below.refl _ _⟩
  case round =>
    obtain ⟨k, hk, rfl, hR, hb⟩ := hrel
    have hz := hb.size
    by_cases hlt : k < n
    · obtain ⟨A', c', e0, h0, h1, h2⟩ := hv
      cases e0
      obtain ⟨blk, off, rfl, hbl, hcell⟩ := h2 (by omega)
      have hk' : k < l.length := by omega
      obtain ⟨i0, i1, i2, i3⟩ := item_4 (w := wr) fun j u hu => (hb.cell (p := ⟨blk, off + k * 4 + j, none⟩) hbl).trans (item_cells (n := n) hcell hk' j u hu)
      obtain ⟨hx1, hx2⟩ := hK l[k] (List.getElem_mem hk')
      have hS := Lib.hid (riseI_step hk' hR.out)
      have hF := Lib.hid (riseI_fail hk' hR.out)
      cases k with
      | zero =>
        have hE : Hid (stepI l 0 hk' = l[0].right) := by show _ = _; simp [stepI]
        simp only [Nat.zero_mul, Nat.add_zero] at i0 i1 i2 i3
        generalize l[0] = x at *
        clear hcell h2 h1 hK
        have bx0 : BoxI (wr.alloc (.cells #[strV x.key, strV x.val, .int .i64 x.over, .int .i64 x.size] 64)) wr.heap.size x := Blk.new _ _ _
        have hC := fun W => right_any x W hx1 hx2
        cases hr : x.right
        · simp only [hr] at hC
          have hD := Lib.hid (hF.out (hE.out.trans hr))
          clear hr hS hF hE
          go_wp2
          obtain ⟨p0, p2, p1, p3⟩ := BoxI.c bx0
          refine wp_region_any (by kernel_rfl) ?_
          change wpAny _ _ _ _ _ _ _ (World.drew _)
          refine wpAny_ready (rs := [0]) (by kernel_rfl) (by simp) (AllReady.cons (o := { dst := _, op := _, type := _, pos := _, after := _, guard := _ }) rfl (fun K hK => ?_) AllReady.nil)
          go_simp
          refine hK _ _ ?_
          clear hK K
          refine wpAny_ready (rs := [1]) (by kernel_rfl) (by simp) (AllReady.cons (o := { dst := _, op := _, type := _, pos := _, after := _, guard := _ }) rfl (fun K hK => ?_) AllReady.nil)
          go_simp
          (go_at_call 135; go_must (refine (hC _).mono ?_); rintro e w1 ⟨rfl, hb1⟩)
          go_simp
          refine hK _ _ ?_
          clear hK K
          refine wpAny_ready (rs := [2]) (by kernel_rfl) (by simp) (AllReady.cons (o := { dst := _, op := _, type := _, pos := _, after := _, guard := _ }) rfl (fun K hK => ?_) AllReady.nil)
          go_simp
          refine hK _ _ ?_
          clear hK K
          refine wpAny_ready (rs := [3]) (by kernel_rfl) (by simp) (AllReady.cons (o := { dst := _, op := _, type := _, pos := _, after := _, guard := _ }) rfl (fun K hK => ?_) AllReady.nil)
          go_simp
          refine hK _ _ ?_
          clear hK K
          try simp only [Act.put, List.setIfInBounds_toArray, List.set_cons_zero, List.set_cons_succ]
          refine wpAny_take (oi := { dst := _, op := _, type := _, pos := _, after := _, guard := _ }) (i := 4) (v := undef) rfl (by kernel_rfl) (by kernel_rfl) (by kernel_rfl) (fun _ _ _ h => h) (Or.inr ⟨by rfl, rfl⟩) ?_
          try simp only [Act.put, List.setIfInBounds_toArray, List.set_cons_zero, List.set_cons_succ]
          try simp only [Act.put, List.setIfInBounds_toArray, List.set_cons_zero, List.set_cons_succ]
          refine wpAny_take (oi := { dst := _, op := _, type := _, pos := _, after := _, guard := _ }) (i := 5) (v := undef) rfl (by kernel_rfl) (by kernel_rfl) (by kernel_rfl) (fun _ _ _ h => h) (Or.inr ⟨by rfl, rfl⟩) ?_
          try simp only [Act.put, List.setIfInBounds_toArray, List.set_cons_zero, List.set_cons_succ]
          try simp only [Act.put, List.setIfInBounds_toArray, List.set_cons_zero, List.set_cons_succ]
          refine wpAny_take (oi := { dst := _, op := _, type := _, pos := _, after := _, guard := _ }) (i := 6) (v := undef) rfl (by kernel_rfl) (by kernel_rfl) (by kernel_rfl) (fun _ _ _ h => h) (Or.inr ⟨by rfl, rfl⟩) ?_
          try simp only [Act.put, List.setIfInBounds_toArray, List.set_cons_zero, List.set_cons_succ]
          try simp only [Act.put, List.setIfInBounds_toArray, List.set_cons_zero, List.set_cons_succ]
          refine wpAny_take (oi := { dst := _, op := _, type := _, pos := _, after := _, guard := _ }) (i := 7) (v := undef) rfl (by kernel_rfl) (by kernel_rfl) (by kernel_rfl) (fun _ _ _ h => h) (Or.inr ⟨by rfl, rfl⟩) ?_
          try simp only [Act.put, List.setIfInBounds_toArray, List.set_cons_zero, List.set_cons_succ]
          try simp only [Act.put, List.setIfInBounds_toArray, List.set_cons_zero, List.set_cons_succ]
          refine wpAny_take (oi := { dst := _, op := _, type := _, pos := _, after := _, guard := _ }) (i := 8) (v := undef) rfl (by kernel_rfl) (by kernel_rfl) (by kernel_rfl) (fun _ _ _ h => h) (Or.inr ⟨by rfl, rfl⟩) ?_
          try simp only [Act.put, List.setIfInBounds_toArray, List.set_cons_zero, List.set_cons_succ]
          try simp only [Act.put, List.setIfInBounds_toArray, List.set_cons_zero, List.set_cons_succ]
          refine wpAny_take (oi := { dst := _, op := _, type := _, pos := _, after := _, guard := _ }) (i := 9) (v := undef) rfl (by kernel_rfl) (by kernel_rfl) (by kernel_rfl) (fun _ _ _ h => h) (Or.inr ⟨by rfl, rfl⟩) ?_
          try simp only [Act.put, List.setIfInBounds_toArray, List.set_cons_zero, List.set_cons_succ]
          try simp only [Act.put, List.setIfInBounds_toArray, List.set_cons_zero, List.set_cons_succ]
          refine wpAny_take (oi := { dst := _, op := _, type := _, pos := _, after := _, guard := _ }) (i := 10) (v := undef) rfl (by kernel_rfl) (by kernel_rfl) (by kernel_rfl) (fun _ _ _ h => h) (Or.inr ⟨by rfl, rfl⟩) ?_
          try simp only [Act.put, List.setIfInBounds_toArray, List.set_cons_zero, List.set_cons_succ]
          try simp only [Act.put, List.setIfInBounds_toArray, List.set_cons_zero, List.set_cons_succ]
          refine wpAny_take (oi := { dst := _, op := _, type := _, pos := _, after := _, guard := _ }) (i := 11) (v := undef) rfl (by kernel_rfl) (by kernel_rfl) (by kernel_rfl) (fun _ _ _ h => h) (Or.inr ⟨by rfl, rfl⟩) ?_
          try simp only [Act.put, List.setIfInBounds_toArray, List.set_cons_zero, List.set_cons_succ]
          try simp only [Act.put, List.setIfInBounds_toArray, List.set_cons_zero, List.set_cons_succ]
          refine wpAny_take (oi := { dst := _, op := _, type := _, pos := _, after := _, guard := _ }) (i := 12) (v := undef) rfl (by kernel_rfl) (by kernel_rfl) (by kernel_rfl) (fun _ _ _ h => h) (Or.inr ⟨by rfl, rfl⟩) ?_
          try simp only [Act.put, List.setIfInBounds_toArray, List.set_cons_zero, List.set_cons_succ]
          try simp only [Act.put, List.setIfInBounds_toArray, List.set_cons_zero, List.set_cons_succ]
          refine wpAny_take (oi := { dst := _, op := _, type := _, pos := _, after := _, guard := _ }) (i := 13) (v := undef) rfl (by kernel_rfl) (by kernel_rfl) (by kernel_rfl) (fun _ _ _ h => h) (Or.inr ⟨by rfl, rfl⟩) ?_
          try simp only [Act.put, List.setIfInBounds_toArray, List.set_cons_zero, List.set_cons_succ]
          try simp only [Act.put, List.setIfInBounds_toArray, List.set_cons_zero, List.set_cons_succ]
          refine wpAny_take (oi := { dst := _, op := _, type := _, pos := _, after := _, guard := _ }) (i := 14) (v := undef) rfl (by kernel_rfl) (by kernel_rfl) (by kernel_rfl) (fun _ _ _ h => h) (Or.inr ⟨by rfl, rfl⟩) ?_
          try simp only [Act.put, List.setIfInBounds_toArray, List.set_cons_zero, List.set_cons_succ]
          try simp only [Act.put, List.setIfInBounds_toArray, List.set_cons_zero, List.set_cons_succ]
          refine wpAny_take (oi := { dst := _, op := _, type := _, pos := _, after := _, guard := _ }) (i := 15) (v := undef) rfl (by kernel_rfl) (by kernel_rfl) (by kernel_rfl) (fun _ _ _ h => h) (Or.inr ⟨by rfl, rfl⟩) ?_
          try simp only [Act.put, List.setIfInBounds_toArray, List.set_cons_zero, List.set_cons_succ]
          try simp only [Act.put, List.setIfInBounds_toArray, List.set_cons_zero, List.set_cons_succ]
          refine wpAny_take (oi := { dst := _, op := _, type := _, pos := _, after := _, guard := _ }) (i := 16) (v := undef) rfl (by kernel_rfl) (by kernel_rfl) (by kernel_rfl) (fun _ _ _ h => h) (Or.inr ⟨by rfl, rfl⟩) ?_
          try simp only [Act.put, List.setIfInBounds_toArray, List.set_cons_zero, List.set_cons_succ]
          refine wpAny_ready (rs := [17]) (by kernel_rfl) (by simp) (AllReady.cons (o := { dst := _, op := _, type := _, pos := _, after := _, guard := _ }) rfl (fun K hK => ?_) AllReady.nil)
          go_simp
          refine hK _ _ ?_
          clear hK K
          refine wpAny_done (by kernel_rfl) ?_ _
          go_wp2
          go_ret
          exact ⟨(ret_b hD.out).symm, ((hb.alloc hz _).drew.trans (hb1.mono (by simp; omega)))⟩
        · simp only [hr] at hC
          have hD := Lib.hid (hS.out.trans (hE.out.trans hr))
          clear hr hS hF hE
          go_wp2
          obtain ⟨p0, p2, p1, p3⟩ := BoxI.c bx0
          refine wp_region_any (by kernel_rfl) ?_
          change wpAny _ _ _ _ _ _ _ (World.drew _)
          refine wpAny_ready (rs := [0]) (by kernel_rfl) (by simp) (AllReady.cons (o := { dst := _, op := _, type := _, pos := _, after := _, guard := _ }) rfl (fun K hK => ?_) AllReady.nil)
          go_simp
          refine hK _ _ ?_
          clear hK K
          refine wpAny_ready (rs := [1]) (by kernel_rfl) (by simp) (AllReady.cons (o := { dst := _, op := _, type := _, pos := _, after := _, guard := _ }) rfl (fun K hK => ?_) AllReady.nil)
          go_simp
          (go_at_call 135; go_must (refine (hC _).mono ?_); rintro e w1 ⟨rfl, hb1⟩)
          go_simp
          refine hK _ _ ?_
          clear hK K
          refine wpAny_ready (rs := [2]) (by kernel_rfl) (by simp) (AllReady.cons (o := { dst := _, op := _, type := _, pos := _, after := _, guard := _ }) rfl (fun K hK => ?_) AllReady.nil)
          go_simp
          refine hK _ _ ?_
          clear hK K
          refine wpAny_ready (rs := [3]) (by kernel_rfl) (by simp) (AllReady.cons (o := { dst := _, op := _, type := _, pos := _, after := _, guard := _ }) rfl (fun K hK => ?_) AllReady.nil)
          go_simp
          refine hK _ _ ?_
          clear hK K
          refine wpAny_ready (rs := [4]) (by kernel_rfl) (by simp) (AllReady.cons (o := { dst := _, op := _, type := _, pos := _, after := _, guard := _ }) rfl (fun K hK => ?_) AllReady.nil)
          go_simp
          refine hK _ _ ?_
          clear hK K
          refine wpAny_ready (rs := [5]) (by kernel_rfl) (by simp) (AllReady.cons (o := { dst := _, op := _, type := _, pos := _, after := _, guard := _ }) rfl (fun K hK => ?_) AllReady.nil)
          go_simp
          refine hK _ _ ?_
          clear hK K
          refine wpAny_ready (rs := [6]) (by kernel_rfl) (by simp) (AllReady.cons (o := { dst := _, op := _, type := _, pos := _, after := _, guard := _ }) rfl (fun K hK => ?_) AllReady.nil)
          go_simp
          refine hK _ _ ?_
          clear hK K
          try simp only [Act.put, List.setIfInBounds_toArray, List.set_cons_zero, List.set_cons_succ]
          refine wpAny_take (oi := { dst := _, op := _, type := _, pos := _, after := _, guard := _ }) (i := 7) (v := undef) rfl (by kernel_rfl) (by kernel_rfl) (by kernel_rfl) (fun _ _ _ h => h) (Or.inr ⟨by rfl, rfl⟩) ?_
          try simp only [Act.put, List.setIfInBounds_toArray, List.set_cons_zero, List.set_cons_succ]
          try simp only [Act.put, List.setIfInBounds_toArray, List.set_cons_zero, List.set_cons_succ]
          refine wpAny_take (oi := { dst := _, op := _, type := _, pos := _, after := _, guard := _ }) (i := 8) (v := undef) rfl (by kernel_rfl) (by kernel_rfl) (by kernel_rfl) (fun _ _ _ h => h) (Or.inr ⟨by rfl, rfl⟩) ?_
          try simp only [Act.put, List.setIfInBounds_toArray, List.set_cons_zero, List.set_cons_succ]
          try simp only [Act.put, List.setIfInBounds_toArray, List.set_cons_zero, List.set_cons_succ]
          refine wpAny_take (oi := { dst := _, op := _, type := _, pos := _, after := _, guard := _ }) (i := 9) (v := undef) rfl (by kernel_rfl) (by kernel_rfl) (by kernel_rfl) (fun _ _ _ h => h) (Or.inr ⟨by rfl, rfl⟩) ?_
          try simp only [Act.put, List.setIfInBounds_toArray, List.set_cons_zero, List.set_cons_succ]
          try simp only [Act.put, List.setIfInBounds_toArray, List.set_cons_zero, List.set_cons_succ]
          refine wpAny_take (oi := { dst := _, op := _, type := _, pos := _, after := _, guard := _ }) (i := 10) (v := undef) rfl (by kernel_rfl) (by kernel_rfl) (by kernel_rfl) (fun _ _ _ h => h) (Or.inr ⟨by rfl, rfl⟩) ?_
          try simp only [Act.put, List.setIfInBounds_toArray, List.set_cons_zero, List.set_cons_succ]
          try simp only [Act.put, List.setIfInBounds_toArray, List.set_cons_zero, List.set_cons_succ]
          refine wpAny_take (oi := { dst := _, op := _, type := _, pos := _, after := _, guard := _ }) (i := 11) (v := undef) rfl (by kernel_rfl) (by kernel_rfl) (by kernel_rfl) (fun _ _ _ h => h) (Or.inr ⟨by rfl, rfl⟩) ?_
          try simp only [Act.put, List.setIfInBounds_toArray, List.set_cons_zero, List.set_cons_succ]
          try simp only [Act.put, List.setIfInBounds_toArray, List.set_cons_zero, List.set_cons_succ]
          refine wpAny_take (oi := { dst := _, op := _, type := _, pos := _, after := _, guard := _ }) (i := 12) (v := undef) rfl (by kernel_rfl) (by kernel_rfl) (by kernel_rfl) (fun _ _ _ h => h) (Or.inr ⟨by rfl, rfl⟩) ?_
          try simp only [Act.put, List.setIfInBounds_toArray, List.set_cons_zero, List.set_cons_succ]
          try simp only [Act.put, List.setIfInBounds_toArray, List.set_cons_zero, List.set_cons_succ]
          refine wpAny_take (oi := { dst := _, op := _, type := _, pos := _, after := _, guard := _ }) (i := 13) (v := undef) rfl (by kernel_rfl) (by kernel_rfl) (by kernel_rfl) (fun _ _ _ h => h) (Or.inr ⟨by rfl, rfl⟩) ?_
          try simp only [Act.put, List.setIfInBounds_toArray, List.set_cons_zero, List.set_cons_succ]
          try simp only [Act.put, List.setIfInBounds_toArray, List.set_cons_zero, List.set_cons_succ]
          refine wpAny_take (oi := { dst := _, op := _, type := _, pos := _, after := _, guard := _ }) (i := 14) (v := undef) rfl (by kernel_rfl) (by kernel_rfl) (by kernel_rfl) (fun _ _ _ h => h) (Or.inr ⟨by rfl, rfl⟩) ?_
          try simp only [Act.put, List.setIfInBounds_toArray, List.set_cons_zero, List.set_cons_succ]
          try simp only [Act.put, List.setIfInBounds_toArray, List.set_cons_zero, List.set_cons_succ]
          refine wpAny_take (oi := { dst := _, op := _, type := _, pos := _, after := _, guard := _ }) (i := 15) (v := undef) rfl (by kernel_rfl) (by kernel_rfl) (by kernel_rfl) (fun _ _ _ h => h) (Or.inr ⟨by rfl, rfl⟩) ?_
          try simp only [Act.put, List.setIfInBounds_toArray, List.set_cons_zero, List.set_cons_succ]
          refine wpAny_ready (rs := [16]) (by kernel_rfl) (by simp) (AllReady.cons (o := { dst := _, op := _, type := _, pos := _, after := _, guard := _ }) rfl (fun K hK => ?_) AllReady.nil)
          go_simp
          refine hK _ _ ?_
          clear hK K
          refine wpAny_ready (rs := [17]) (by kernel_rfl) (by simp) (AllReady.cons (o := { dst := _, op := _, type := _, pos := _, after := _, guard := _ }) rfl (fun K hK => ?_) AllReady.nil)
          go_simp
          refine hK _ _ ?_
          clear hK K
          refine wpAny_done (by kernel_rfl) ?_ _
          go_wp2
          go_roundw
          case rel => exact ⟨1, by omega, by go_num, hD, ((hb.alloc hz _).drew.trans (hb1.mono (by simp; omega)))⟩
          case measure => simp [Go.RowKit.intOf]; omega
      | succ j =>
        have hE : Hid (stepI l (j + 1) hk' = (l[j + 1].right && lessB l[j].key l[j + 1].key)) := by show _ = _; simp [stepI]
        have hj : j < l.length := by omega
        obtain ⟨j0, _⟩ := item_4 (w := wr) fun i u hu => (hb.cell (p := ⟨blk, off + j * 4 + i, none⟩) hbl).trans (item_cells (n := n) hcell hj i u hu)
        have hlj : (0 : Int) ≤ (j : Int) ∧ (j : Int) < (n : Int) := by omega
        obtain ⟨hlj1, hlj2⟩ := hlj
        have hw : IntKind.i64.wrap (j : Int) = (j : Int) := IntWalk.i64_in _ (by omega)
        generalize l[j + 1] = x at *
        generalize l[j] = y at *
        clear hcell h2 h1 hK
        have bx0 : BoxI (wr.alloc (.cells #[strV x.key, strV x.val, .int .i64 x.over, .int .i64 x.size] 64)) wr.heap.size x := Blk.new _ _ _
        have hC := fun W => right_any x W hx1 hx2
        cases hr : x.right
        · simp only [hr] at hC
          have hD := Lib.hid (hF.out (by rw [hE.out, hr]; rfl))
          clear hr hS hF hE
          go_wp2
          obtain ⟨p0, p2, p1, p3⟩ := BoxI.c bx0
          refine wp_region_any (by kernel_rfl) ?_
          change wpAny _ _ _ _ _ _ _ (World.drew _)
          refine wpAny_ready (rs := [0]) (by kernel_rfl) (by simp) (AllReady.cons (o := { dst := _, op := _, type := _, pos := _, after := _, guard := _ }) rfl (fun K hK => ?_) AllReady.nil)
          go_simp
          refine hK _ _ ?_
          clear hK K
          refine wpAny_ready (rs := [1]) (by kernel_rfl) (by simp) (AllReady.cons (o := { dst := _, op := _, type := _, pos := _, after := _, guard := _ }) rfl (fun K hK => ?_) AllReady.nil)
          go_simp
          (go_at_call 135; go_must (refine (hC _).mono ?_); rintro e w1 ⟨rfl, hb1⟩)
          go_simp
          refine hK _ _ ?_
          clear hK K
          refine wpAny_ready (rs := [2]) (by kernel_rfl) (by simp) (AllReady.cons (o := { dst := _, op := _, type := _, pos := _, after := _, guard := _ }) rfl (fun K hK => ?_) AllReady.nil)
          go_simp
          refine hK _ _ ?_
          clear hK K
          refine wpAny_ready (rs := [3]) (by kernel_rfl) (by simp) (AllReady.cons (o := { dst := _, op := _, type := _, pos := _, after := _, guard := _ }) rfl (fun K hK => ?_) AllReady.nil)
          go_simp
          refine hK _ _ ?_
          clear hK K
          try simp only [Act.put, List.setIfInBounds_toArray, List.set_cons_zero, List.set_cons_succ]
          refine wpAny_take (oi := { dst := _, op := _, type := _, pos := _, after := _, guard := _ }) (i := 4) (v := undef) rfl (by kernel_rfl) (by kernel_rfl) (by kernel_rfl) (fun _ _ _ h => h) (Or.inr ⟨by rfl, rfl⟩) ?_
          try simp only [Act.put, List.setIfInBounds_toArray, List.set_cons_zero, List.set_cons_succ]
          try simp only [Act.put, List.setIfInBounds_toArray, List.set_cons_zero, List.set_cons_succ]
          refine wpAny_take (oi := { dst := _, op := _, type := _, pos := _, after := _, guard := _ }) (i := 5) (v := undef) rfl (by kernel_rfl) (by kernel_rfl) (by kernel_rfl) (fun _ _ _ h => h) (Or.inr ⟨by rfl, rfl⟩) ?_
          try simp only [Act.put, List.setIfInBounds_toArray, List.set_cons_zero, List.set_cons_succ]
          try simp only [Act.put, List.setIfInBounds_toArray, List.set_cons_zero, List.set_cons_succ]
          refine wpAny_take (oi := { dst := _, op := _, type := _, pos := _, after := _, guard := _ }) (i := 6) (v := undef) rfl (by kernel_rfl) (by kernel_rfl) (by kernel_rfl) (fun _ _ _ h => h) (Or.inr ⟨by rfl, rfl⟩) ?_
          try simp only [Act.put, List.setIfInBounds_toArray, List.set_cons_zero, List.set_cons_succ]
          try simp only [Act.put, List.setIfInBounds_toArray, List.set_cons_zero, List.set_cons_succ]
          refine wpAny_take (oi := { dst := _, op := _, type := _, pos := _, after := _, guard := _ }) (i := 7) (v := undef) rfl (by kernel_rfl) (by kernel_rfl) (by kernel_rfl) (fun _ _ _ h => h) (Or.inr ⟨by rfl, rfl⟩) ?_
          try simp only [Act.put, List.setIfInBounds_toArray, List.set_cons_zero, List.set_cons_succ]
          try simp only [Act.put, List.setIfInBounds_toArray, List.set_cons_zero, List.set_cons_succ]
          refine wpAny_take (oi := { dst := _, op := _, type := _, pos := _, after := _, guard := _ }) (i := 8) (v := undef) rfl (by kernel_rfl) (by kernel_rfl) (by kernel_rfl) (fun _ _ _ h => h) (Or.inr ⟨by rfl, rfl⟩) ?_
          try simp only [Act.put, List.setIfInBounds_toArray, List.set_cons_zero, List.set_cons_succ]
          try simp only [Act.put, List.setIfInBounds_toArray, List.set_cons_zero, List.set_cons_succ]
          refine wpAny_take (oi := { dst := _, op := _, type := _, pos := _, after := _, guard := _ }) (i := 9) (v := undef) rfl (by kernel_rfl) (by kernel_rfl) (by kernel_rfl) (fun _ _ _ h => h) (Or.inr ⟨by rfl, rfl⟩) ?_
          try simp only [Act.put, List.setIfInBounds_toArray, List.set_cons_zero, List.set_cons_succ]
          try simp only [Act.put, List.setIfInBounds_toArray, List.set_cons_zero, List.set_cons_succ]
          refine wpAny_take (oi := { dst := _, op := _, type := _, pos := _, after := _, guard := _ }) (i := 10) (v := undef) rfl (by kernel_rfl) (by kernel_rfl) (by kernel_rfl) (fun _ _ _ h => h) (Or.inr ⟨by rfl, rfl⟩) ?_
          try simp only [Act.put, List.setIfInBounds_toArray, List.set_cons_zero, List.set_cons_succ]
          try simp only [Act.put, List.setIfInBounds_toArray, List.set_cons_zero, List.set_cons_succ]
          refine wpAny_take (oi := { dst := _, op := _, type := _, pos := _, after := _, guard := _ }) (i := 11) (v := undef) rfl (by kernel_rfl) (by kernel_rfl) (by kernel_rfl) (fun _ _ _ h => h) (Or.inr ⟨by rfl, rfl⟩) ?_
          try simp only [Act.put, List.setIfInBounds_toArray, List.set_cons_zero, List.set_cons_succ]
          try simp only [Act.put, List.setIfInBounds_toArray, List.set_cons_zero, List.set_cons_succ]
          refine wpAny_take (oi := { dst := _, op := _, type := _, pos := _, after := _, guard := _ }) (i := 12) (v := undef) rfl (by kernel_rfl) (by kernel_rfl) (by kernel_rfl) (fun _ _ _ h => h) (Or.inr ⟨by rfl, rfl⟩) ?_
          try simp only [Act.put, List.setIfInBounds_toArray, List.set_cons_zero, List.set_cons_succ]
          try simp only [Act.put, List.setIfInBounds_toArray, List.set_cons_zero, List.set_cons_succ]
          refine wpAny_take (oi := { dst := _, op := _, type := _, pos := _, after := _, guard := _ }) (i := 13) (v := undef) rfl (by kernel_rfl) (by kernel_rfl) (by kernel_rfl) (fun _ _ _ h => h) (Or.inr ⟨by rfl, rfl⟩) ?_
          try simp only [Act.put, List.setIfInBounds_toArray, List.set_cons_zero, List.set_cons_succ]
          try simp only [Act.put, List.setIfInBounds_toArray, List.set_cons_zero, List.set_cons_succ]
          refine wpAny_take (oi := { dst := _, op := _, type := _, pos := _, after := _, guard := _ }) (i := 14) (v := undef) rfl (by kernel_rfl) (by kernel_rfl) (by kernel_rfl) (fun _ _ _ h => h) (Or.inr ⟨by rfl, rfl⟩) ?_
          try simp only [Act.put, List.setIfInBounds_toArray, List.set_cons_zero, List.set_cons_succ]
          try simp only [Act.put, List.setIfInBounds_toArray, List.set_cons_zero, List.set_cons_succ]
          refine wpAny_take (oi := { dst := _, op := _, type := _, pos := _, after := _, guard := _ }) (i := 15) (v := undef) rfl (by kernel_rfl) (by kernel_rfl) (by kernel_rfl) (fun _ _ _ h => h) (Or.inr ⟨by rfl, rfl⟩) ?_
          try simp only [Act.put, List.setIfInBounds_toArray, List.set_cons_zero, List.set_cons_succ]
          try simp only [Act.put, List.setIfInBounds_toArray, List.set_cons_zero, List.set_cons_succ]
          refine wpAny_take (oi := { dst := _, op := _, type := _, pos := _, after := _, guard := _ }) (i := 16) (v := undef) rfl (by kernel_rfl) (by kernel_rfl) (by kernel_rfl) (fun _ _ _ h => h) (Or.inr ⟨by rfl, rfl⟩) ?_
          try simp only [Act.put, List.setIfInBounds_toArray, List.set_cons_zero, List.set_cons_succ]
          refine wpAny_ready (rs := [17]) (by kernel_rfl) (by simp) (AllReady.cons (o := { dst := _, op := _, type := _, pos := _, after := _, guard := _ }) rfl (fun K hK => ?_) AllReady.nil)
          go_simp
          refine hK _ _ ?_
          clear hK K
          refine wpAny_done (by kernel_rfl) ?_ _
          go_wp2
          go_ret
          exact ⟨(ret_b hD.out).symm, ((hb.alloc hz _).drew.trans (hb1.mono (by simp; omega)))⟩
        · simp only [hr] at hC
          cases hq : lessB y.key x.key
          · have hD := Lib.hid (hF.out (by rw [hE.out, hr, hq]; rfl))
            clear hr hS hF hE
            go_wp2
            obtain ⟨p0, p2, p1, p3⟩ := BoxI.c bx0
            refine wp_region_any (by kernel_rfl) ?_
            change wpAny _ _ _ _ _ _ _ (World.drew _)
            refine wpAny_ready (rs := [0]) (by kernel_rfl) (by simp) (AllReady.cons (o := { dst := _, op := _, type := _, pos := _, after := _, guard := _ }) rfl (fun K hK => ?_) AllReady.nil)
            go_simp
            refine hK _ _ ?_
            clear hK K
            refine wpAny_ready (rs := [1]) (by kernel_rfl) (by simp) (AllReady.cons (o := { dst := _, op := _, type := _, pos := _, after := _, guard := _ }) rfl (fun K hK => ?_) AllReady.nil)
            go_simp
            (go_at_call 135; go_must (refine (hC _).mono ?_); rintro e w1 ⟨rfl, hb1⟩; have bx1 := Blk.below' (Blk.drew bx0) hb1; obtain ⟨r0, _⟩ := BoxI.c bx1; have hz1 := hb1.size; simp at hz1; have j1 : w1.cell? ⟨blk, off + j * 4, none⟩ = some (strV y.key) := (hb1.cell (p := ⟨blk, off + j * 4, none⟩) (by simp; omega)).trans ((World.cell?_alloc_past _ _ _ (by omega)).trans j0))
            go_simp
            refine hK _ _ ?_
            clear hK K
            refine wpAny_ready (rs := [2]) (by kernel_rfl) (by simp) (AllReady.cons (o := { dst := _, op := _, type := _, pos := _, after := _, guard := _ }) rfl (fun K hK => ?_) AllReady.nil)
            go_simp
            refine hK _ _ ?_
            clear hK K
            refine wpAny_ready (rs := [3]) (by kernel_rfl) (by simp) (AllReady.cons (o := { dst := _, op := _, type := _, pos := _, after := _, guard := _ }) rfl (fun K hK => ?_) AllReady.nil)
            go_simp
            refine hK _ _ ?_
            clear hK K
            refine wpAny_ready (rs := [4]) (by kernel_rfl) (by simp) (AllReady.cons (o := { dst := _, op := _, type := _, pos := _, after := _, guard := _ }) rfl (fun K hK => ?_) AllReady.nil)
            go_simp
            refine hK _ _ ?_
            clear hK K
            refine wpAny_ready (rs := [5]) (by kernel_rfl) (by simp) (AllReady.cons (o := { dst := _, op := _, type := _, pos := _, after := _, guard := _ }) rfl (fun K hK => ?_) AllReady.nil)
            go_simp
            refine hK _ _ ?_
            clear hK K
            refine wpAny_ready (rs := [6]) (by kernel_rfl) (by simp) (AllReady.cons (o := { dst := _, op := _, type := _, pos := _, after := _, guard := _ }) rfl (fun K hK => ?_) AllReady.nil)
            go_simp
            refine hK _ _ ?_
            clear hK K
            try simp only [Act.put, List.setIfInBounds_toArray, List.set_cons_zero, List.set_cons_succ]
            refine wpAny_take (oi := { dst := _, op := _, type := _, pos := _, after := _, guard := _ }) (i := 7) (v := ?_) rfl (by kernel_rfl) (by kernel_rfl) (by kernel_rfl) (fun _ _ _ h => h) (Or.inl ⟨by rfl, ?hy⟩) ?_
            case hy => (intro w; go_simp; try with_reducible rfl)
            try simp only [Act.put, List.setIfInBounds_toArray, List.set_cons_zero, List.set_cons_succ]
            try simp only [Act.put, List.setIfInBounds_toArray, List.set_cons_zero, List.set_cons_succ]
            refine wpAny_take (oi := { dst := _, op := _, type := _, pos := _, after := _, guard := _ }) (i := 8) (v := ?_) rfl (by kernel_rfl) (by kernel_rfl) (by kernel_rfl) (fun _ _ _ h => h) (Or.inl ⟨by rfl, ?hy⟩) ?_
            case hy => (intro w; go_simp; try with_reducible rfl)
            try simp only [Act.put, List.setIfInBounds_toArray, List.set_cons_zero, List.set_cons_succ]
            try simp only [Act.put, List.setIfInBounds_toArray, List.set_cons_zero, List.set_cons_succ]
            refine wpAny_take (oi := { dst := _, op := _, type := _, pos := _, after := _, guard := _ }) (i := 9) (v := ?_) rfl (by kernel_rfl) (by kernel_rfl) (by kernel_rfl) (fun _ _ _ h => h) (Or.inl ⟨by rfl, ?hy⟩) ?_
            case hy => (intro w; go_simp; try with_reducible rfl)
            try simp only [Act.put, List.setIfInBounds_toArray, List.set_cons_zero, List.set_cons_succ]
            try simp only [Act.put, List.setIfInBounds_toArray, List.set_cons_zero, List.set_cons_succ]
            refine wpAny_take (oi := { dst := _, op := _, type := _, pos := _, after := _, guard := _ }) (i := 10) (v := ?_) rfl (by kernel_rfl) (by kernel_rfl) (by kernel_rfl) (fun _ _ _ h => h) (Or.inl ⟨by rfl, ?hy⟩) ?_
            case hy => (intro w; go_simp; try with_reducible rfl)
            try simp only [Act.put, List.setIfInBounds_toArray, List.set_cons_zero, List.set_cons_succ]
            try simp only [Act.put, List.setIfInBounds_toArray, List.set_cons_zero, List.set_cons_succ]
            refine wpAny_take (oi := { dst := _, op := _, type := _, pos := _, after := _, guard := _ }) (i := 11) (v := ?_) rfl (by kernel_rfl) (by kernel_rfl) (by kernel_rfl) (fun _ _ _ h => h) (Or.inl ⟨by rfl, ?hy⟩) ?_
            case hy => (intro w; go_simp; try with_reducible rfl)
            try simp only [Act.put, List.setIfInBounds_toArray, List.set_cons_zero, List.set_cons_succ]
            try simp only [Act.put, List.setIfInBounds_toArray, List.set_cons_zero, List.set_cons_succ]
            refine wpAny_take (oi := { dst := _, op := _, type := _, pos := _, after := _, guard := _ }) (i := 13) (v := ?_) rfl (by kernel_rfl) (by kernel_rfl) (by kernel_rfl) (fun _ _ _ h => h) (Or.inl ⟨by rfl, ?hy⟩) ?_
            case hy => (intro w; go_simp; try with_reducible rfl)
            try simp only [Act.put, List.setIfInBounds_toArray, List.set_cons_zero, List.set_cons_succ]
            refine wpAny_ready (rs := [12, 14]) (by kernel_rfl) (by simp) (AllReady.cons (o := { dst := _, op := _, type := _, pos := _, after := _, guard := _ }) rfl (fun K hK => ?_) (AllReady.cons (o := { dst := _, op := _, type := _, pos := _, after := _, guard := _ }) rfl (fun K hK => ?_) AllReady.nil))
            · go_simp
              refine hK _ _ ?_
              clear hK K
              refine wpAny_ready (rs := [14]) (by kernel_rfl) (by simp) (AllReady.cons (o := { dst := _, op := _, type := _, pos := _, after := _, guard := _ }) rfl (fun K hK => ?_) AllReady.nil)
              go_simp
              refine hK _ _ ?_
              clear hK K
              refine wpAny_ready (rs := [15]) (by kernel_rfl) (by simp) (AllReady.cons (o := { dst := _, op := _, type := _, pos := _, after := _, guard := _ }) rfl (fun K hK => ?_) AllReady.nil)
              go_simp
              refine hK _ _ ?_
              clear hK K
              refine wpAny_ready (rs := [16]) (by kernel_rfl) (by simp) (AllReady.cons (o := { dst := _, op := _, type := _, pos := _, after := _, guard := _ }) rfl (fun K hK => ?_) AllReady.nil)
              go_simp
              refine hK _ _ ?_
              clear hK K
              refine wpAny_ready (rs := [17]) (by kernel_rfl) (by simp) (AllReady.cons (o := { dst := _, op := _, type := _, pos := _, after := _, guard := _ }) rfl (fun K hK => ?_) AllReady.nil)
              go_simp
              refine hK _ _ ?_
              clear hK K
              refine wpAny_done (by kernel_rfl) ?_ _
              go_wp2
              go_ret
              exact ⟨(ret_b hD.out).symm, ((hb.alloc hz _).drew.trans (hb1.mono (by simp; omega)))⟩
            · go_simp
              refine hK _ _ ?_
              clear hK K
              refine wpAny_ready (rs := [12]) (by kernel_rfl) (by simp) (AllReady.cons (o := { dst := _, op := _, type := _, pos := _, after := _, guard := _ }) rfl (fun K hK => ?_) AllReady.nil)
              go_simp
              refine hK _ _ ?_
              clear hK K
              refine wpAny_ready (rs := [15]) (by kernel_rfl) (by simp) (AllReady.cons (o := { dst := _, op := _, type := _, pos := _, after := _, guard := _ }) rfl (fun K hK => ?_) AllReady.nil)
              go_simp
              refine hK _ _ ?_
              clear hK K
              refine wpAny_ready (rs := [16]) (by kernel_rfl) (by simp) (AllReady.cons (o := { dst := _, op := _, type := _, pos := _, after := _, guard := _ }) rfl (fun K hK => ?_) AllReady.nil)
              go_simp
              refine hK _ _ ?_
              clear hK K
              refine wpAny_ready (rs := [17]) (by kernel_rfl) (by simp) (AllReady.cons (o := { dst := _, op := _, type := _, pos := _, after := _, guard := _ }) rfl (fun K hK => ?_) AllReady.nil)
              go_simp
              refine hK _ _ ?_
              clear hK K
              refine wpAny_done (by kernel_rfl) ?_ _
              go_wp2
              go_ret
              exact ⟨(ret_b hD.out).symm, ((hb.alloc hz _).drew.trans (hb1.mono (by simp; omega)))⟩
          · have hD := Lib.hid (hS.out.trans (by rw [hE.out, hr, hq] <;> rfl))
            clear hr hS hF hE
            go_wp2
            obtain ⟨p0, p2, p1, p3⟩ := BoxI.c bx0
            refine wp_region_any (by kernel_rfl) ?_
            change wpAny _ _ _ _ _ _ _ (World.drew _)
            refine wpAny_ready (rs := [0]) (by kernel_rfl) (by simp) (AllReady.cons (o := { dst := _, op := _, type := _, pos := _, after := _, guard := _ }) rfl (fun K hK => ?_) AllReady.nil)
            go_simp
            refine hK _ _ ?_
            clear hK K
            refine wpAny_ready (rs := [1]) (by kernel_rfl) (by simp) (AllReady.cons (o := { dst := _, op := _, type := _, pos := _, after := _, guard := _ }) rfl (fun K hK => ?_) AllReady.nil)
            go_simp
            (go_at_call 135; go_must (refine (hC _).mono ?_); rintro e w1 ⟨rfl, hb1⟩; have bx1 := Blk.below' (Blk.drew bx0) hb1; obtain ⟨r0, _⟩ := BoxI.c bx1; have hz1 := hb1.size; simp at hz1; have j1 : w1.cell? ⟨blk, off + j * 4, none⟩ = some (strV y.key) := (hb1.cell (p := ⟨blk, off + j * 4, none⟩) (by simp; omega)).trans ((World.cell?_alloc_past _ _ _ (by omega)).trans j0))
            go_simp
            refine hK _ _ ?_
            clear hK K
            refine wpAny_ready (rs := [2]) (by kernel_rfl) (by simp) (AllReady.cons (o := { dst := _, op := _, type := _, pos := _, after := _, guard := _ }) rfl (fun K hK => ?_) AllReady.nil)
            go_simp
            refine hK _ _ ?_
            clear hK K
            refine wpAny_ready (rs := [3]) (by kernel_rfl) (by simp) (AllReady.cons (o := { dst := _, op := _, type := _, pos := _, after := _, guard := _ }) rfl (fun K hK => ?_) AllReady.nil)
            go_simp
            refine hK _ _ ?_
            clear hK K
            refine wpAny_ready (rs := [4]) (by kernel_rfl) (by simp) (AllReady.cons (o := { dst := _, op := _, type := _, pos := _, after := _, guard := _ }) rfl (fun K hK => ?_) AllReady.nil)
            go_simp
            refine hK _ _ ?_
            clear hK K
            refine wpAny_ready (rs := [5]) (by kernel_rfl) (by simp) (AllReady.cons (o := { dst := _, op := _, type := _, pos := _, after := _, guard := _ }) rfl (fun K hK => ?_) AllReady.nil)
            go_simp
            refine hK _ _ ?_
            clear hK K
            refine wpAny_ready (rs := [6]) (by kernel_rfl) (by simp) (AllReady.cons (o := { dst := _, op := _, type := _, pos := _, after := _, guard := _ }) rfl (fun K hK => ?_) AllReady.nil)
            go_simp
            refine hK _ _ ?_
            clear hK K
            try simp only [Act.put, List.setIfInBounds_toArray, List.set_cons_zero, List.set_cons_succ]
            refine wpAny_take (oi := { dst := _, op := _, type := _, pos := _, after := _, guard := _ }) (i := 7) (v := ?_) rfl (by kernel_rfl) (by kernel_rfl) (by kernel_rfl) (fun _ _ _ h => h) (Or.inl ⟨by rfl, ?hy⟩) ?_
            case hy => (intro w; go_simp; try with_reducible rfl)
            try simp only [Act.put, List.setIfInBounds_toArray, List.set_cons_zero, List.set_cons_succ]
            try simp only [Act.put, List.setIfInBounds_toArray, List.set_cons_zero, List.set_cons_succ]
            refine wpAny_take (oi := { dst := _, op := _, type := _, pos := _, after := _, guard := _ }) (i := 8) (v := ?_) rfl (by kernel_rfl) (by kernel_rfl) (by kernel_rfl) (fun _ _ _ h => h) (Or.inl ⟨by rfl, ?hy⟩) ?_
            case hy => (intro w; go_simp; try with_reducible rfl)
            try simp only [Act.put, List.setIfInBounds_toArray, List.set_cons_zero, List.set_cons_succ]
            try simp only [Act.put, List.setIfInBounds_toArray, List.set_cons_zero, List.set_cons_succ]
            refine wpAny_take (oi := { dst := _, op := _, type := _, pos := _, after := _, guard := _ }) (i := 9) (v := ?_) rfl (by kernel_rfl) (by kernel_rfl) (by kernel_rfl) (fun _ _ _ h => h) (Or.inl ⟨by rfl, ?hy⟩) ?_
            case hy => (intro w; go_simp; try with_reducible rfl)
            try simp only [Act.put, List.setIfInBounds_toArray, List.set_cons_zero, List.set_cons_succ]
            try simp only [Act.put, List.setIfInBounds_toArray, List.set_cons_zero, List.set_cons_succ]
            refine wpAny_take (oi := { dst := _, op := _, type := _, pos := _, after := _, guard := _ }) (i := 10) (v := ?_) rfl (by kernel_rfl) (by kernel_rfl) (by kernel_rfl) (fun _ _ _ h => h) (Or.inl ⟨by rfl, ?hy⟩) ?_
            case hy => (intro w; go_simp; try with_reducible rfl)
            try simp only [Act.put, List.setIfInBounds_toArray, List.set_cons_zero, List.set_cons_succ]
            try simp only [Act.put, List.setIfInBounds_toArray, List.set_cons_zero, List.set_cons_succ]
            refine wpAny_take (oi := { dst := _, op := _, type := _, pos := _, after := _, guard := _ }) (i := 11) (v := ?_) rfl (by kernel_rfl) (by kernel_rfl) (by kernel_rfl) (fun _ _ _ h => h) (Or.inl ⟨by rfl, ?hy⟩) ?_
            case hy => (intro w; go_simp; try with_reducible rfl)
            try simp only [Act.put, List.setIfInBounds_toArray, List.set_cons_zero, List.set_cons_succ]
            try simp only [Act.put, List.setIfInBounds_toArray, List.set_cons_zero, List.set_cons_succ]
            refine wpAny_take (oi := { dst := _, op := _, type := _, pos := _, after := _, guard := _ }) (i := 13) (v := ?_) rfl (by kernel_rfl) (by kernel_rfl) (by kernel_rfl) (fun _ _ _ h => h) (Or.inl ⟨by rfl, ?hy⟩) ?_
            case hy => (intro w; go_simp; try with_reducible rfl)
            try simp only [Act.put, List.setIfInBounds_toArray, List.set_cons_zero, List.set_cons_succ]
            refine wpAny_ready (rs := [12, 14]) (by kernel_rfl) (by simp) (AllReady.cons (o := { dst := _, op := _, type := _, pos := _, after := _, guard := _ }) rfl (fun K hK => ?_) (AllReady.cons (o := { dst := _, op := _, type := _, pos := _, after := _, guard := _ }) rfl (fun K hK => ?_) AllReady.nil))
            · go_simp
              refine hK _ _ ?_
              clear hK K
              refine wpAny_ready (rs := [14]) (by kernel_rfl) (by simp) (AllReady.cons (o := { dst := _, op := _, type := _, pos := _, after := _, guard := _ }) rfl (fun K hK => ?_) AllReady.nil)
              go_simp
              refine hK _ _ ?_
              clear hK K
              refine wpAny_ready (rs := [15]) (by kernel_rfl) (by simp) (AllReady.cons (o := { dst := _, op := _, type := _, pos := _, after := _, guard := _ }) rfl (fun K hK => ?_) AllReady.nil)
              go_simp
              refine hK _ _ ?_
              clear hK K
              refine wpAny_ready (rs := [16]) (by kernel_rfl) (by simp) (AllReady.cons (o := { dst := _, op := _, type := _, pos := _, after := _, guard := _ }) rfl (fun K hK => ?_) AllReady.nil)
              go_simp
              refine hK _ _ ?_
              clear hK K
              refine wpAny_ready (rs := [17]) (by kernel_rfl) (by simp) (AllReady.cons (o := { dst := _, op := _, type := _, pos := _, after := _, guard := _ }) rfl (fun K hK => ?_) AllReady.nil)
              go_simp
              refine hK _ _ ?_
              clear hK K
              refine wpAny_done (by kernel_rfl) ?_ _
              go_wp2
              go_roundw
              case rel => exact ⟨j + 1 + 1, by omega, by go_num, hD, ((hb.alloc hz _).drew.trans (hb1.mono (by simp; omega)))⟩
              case measure => simp [Go.RowKit.intOf]; omega
            · go_simp
              refine hK _ _ ?_
              clear hK K
              refine wpAny_ready (rs := [12]) (by kernel_rfl) (by simp) (AllReady.cons (o := { dst := _, op := _, type := _, pos := _, after := _, guard := _ }) rfl (fun K hK => ?_) AllReady.nil)
              go_simp
              refine hK _ _ ?_
              clear hK K
              refine wpAny_ready (rs := [15]) (by kernel_rfl) (by simp) (AllReady.cons (o := { dst := _, op := _, type := _, pos := _, after := _, guard := _ }) rfl (fun K hK => ?_) AllReady.nil)
              go_simp
              refine hK _ _ ?_
              clear hK K
              refine wpAny_ready (rs := [16]) (by kernel_rfl) (by simp) (AllReady.cons (o := { dst := _, op := _, type := _, pos := _, after := _, guard := _ }) rfl (fun K hK => ?_) AllReady.nil)
              go_simp
              refine hK _ _ ?_
              clear hK K
              refine wpAny_ready (rs := [17]) (by kernel_rfl) (by simp) (AllReady.cons (o := { dst := _, op := _, type := _, pos := _, after := _, guard := _ }) rfl (fun K hK => ?_) AllReady.nil)
              go_simp
              refine hK _ _ ?_
              clear hK K
              refine wpAny_done (by kernel_rfl) ?_ _
              go_wp2
              go_roundw
              case rel => exact ⟨j + 1 + 1, by omega, by go_num, hD, ((hb.alloc hz _).drew.trans (hb1.mono (by simp; omega)))⟩
              case measure => simp [Go.RowKit.intOf]; omega
    · have hkn : k = n := by omega
      subst hkn
      have hr := Lib.hid ((congrArg riseI (List.take_of_length_le (show l.length ≤ k by omega))).symm.trans hR.out)
      clear hv hl1
      go_wp2
      go_ret
      exact ⟨(ret_b hr.out).symm, hb⟩
end Go.Ev
