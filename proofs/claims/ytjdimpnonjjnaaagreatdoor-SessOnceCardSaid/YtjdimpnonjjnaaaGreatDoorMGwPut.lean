/-
  Texts of this claim.
-/
import Derived.Test.YtjdimpnonjjnaaaGreatDoorMEvInsert
import Derived.Test.YtjdimpnonjjnaaaGreatDoorMGwRight
import Derived.WalkLawsBesides
set_option linter.unusedVariables false
set_option linter.unusedSimpArgs false
set_option maxHeartbeats 4000000
set_option maxRecDepth 100000
namespace Go.Ev
open Go.Proofs Go.RowKit
theorem item_4 {w : World} {blk o : Nat} {x : Item} (h : ∀ j u, (itemCs x)[j]? = some u → w.cell? ⟨blk, o + j, none⟩ = some u) :
  w.cell? ⟨blk, o, none⟩ = some (strV x.key) ∧ w.cell? ⟨blk, o + 1, none⟩ = some (strV x.val) ∧ w.cell? ⟨blk, o + 2, none⟩ = some (.int .i64 x.over) ∧ w.cell? ⟨blk, o + 3, none⟩ = some (.int .i64 x.size) :=
 ⟨h 0 _ rfl, h 1 _ rfl, h 2 _ rfl, h 3 _ rfl⟩
def KeysOk (l : List Item) : Prop := ∀ x ∈ l, x.key.length ≤ 9223372036854775807 ∧ x.val.length ≤ 9223372036854775807
theorem rise_any (A : Option Addr) (n c : Nat) (l : List Item) (w : World) (hv : Sl w 4 (.slice A n c) n (itemsCs l)) (hn : n ≤ 100000) (hK : KeysOk l) :
  Calls Tryz.prog 150 #[.slice A n c] w fun e w' => e = .returned (.bool (riseI l)) ∧ Below w.heap.size w w' := by
 have hl1 : l.length = n := by obtain ⟨_, _, e, _, h1, _⟩ := hv; rw [itemsCs_len] at h1; omega
 go_enter Tryz.func150, Tryz.ntmps150
 go_wp2
 go_loopw [7] (fun i wr => ∃ (k : Nat), k ≤ n ∧ i = .int .i64 (k : Int) ∧ Hid (riseI (l.take k) = true) ∧ Below w.heap.size w wr) (fun i _ => n - (Go.RowKit.intOf i).toNat)
 case atStart => exact ⟨0, by omega, rfl, rfl, Below.refl _ _⟩
 case round =>
  obtain ⟨k, hk, rfl, hR, hb⟩ := hrel
  have hz := hb.size
  by_cases hlt : k < n
  ·obtain ⟨A', c', e0, h0, h1, h2⟩ := hv
   cases e0
   obtain ⟨blk, off, rfl, hbl, hcell⟩ := h2 (by omega)
   have hk' : k < l.length := by omega
   obtain ⟨i0, i1, i2, i3⟩ := item_4 (w := wr) fun j u hu => (hb.cell (p := ⟨blk, off + k * 4 + j, none⟩) hbl).trans (item_cells (n := n) hcell hk' j u hu)
   obtain ⟨hx1, hx2⟩ := hK l[k] (List.getElem_mem hk')
   have hS := Hdz (riseI_step hk' hR.out)
   have hF := Hdz (riseI_fail hk' hR.out)
   cases k with
   | zero =>
    have hE : Hid (stepI l 0 hk' = l[0].right) := by show _ = _; simp [stepI]
    simp only [Nat.zero_mul, Nat.add_zero] at i0 i1 i2 i3
    generalize l[0] = x at *
    clear hcell h2 h1 hK
    have bx0 : BoxI (wr.alloc (.cells #[strV x.key, strV x.val, .int .i64 x.over, .int .i64 x.size] 144)) wr.heap.size x := Blk.new _ _ _
    have hC := fun W => right_any x W hx1 hx2
    cases hr : x.right
    ·simp only [hr] at hC
     have hD := Hdz (hF.out (hE.out.trans hr))
     clear hr hS hF hE
     go_wp2
     obtain ⟨p0, p2, p1, p3⟩ := BoxI.c bx0
     refine wRz ?_
     refine rZz 0 fun K hK => ?_; go_simp; apply hK; clear hK K
     refine rZz 1 fun K hK => ?_; go_simp
     (go_at_call 183; go_must (refine (hC _).mono ?_); rintro e w1 ⟨rfl, hb1⟩)
     go_simp
     apply hK
     clear hK K
     refine rZz 2 fun K hK => ?_; go_simp; apply hK; clear hK K
     refine rZz 3 fun K hK => ?_; go_simp; apply hK; clear hK K
     try simp only [lAz]
     refine sA 4 ?_; try simp only [lAz]
     refine sA 5 ?_; try simp only [lAz]
     refine sA 6 ?_; try simp only [lAz]
     refine sA 7 ?_; try simp only [lAz]
     refine sA 8 ?_; try simp only [lAz]
     refine sA 9 ?_; try simp only [lAz]
     refine sA 10 ?_; try simp only [lAz]
     refine sA 11 ?_; try simp only [lAz]
     refine sA 12 ?_; try simp only [lAz]
     refine sA 13 ?_; try simp only [lAz]
     refine sA 14 ?_; try simp only [lAz]
     refine sA 15 ?_; try simp only [lAz]
     refine sA 16 ?_; try simp only [lAz]
     refine rZz 17 fun K hK => ?_; go_simp; apply hK; clear hK K
     refine wDz ?_
     go_wp2
     go_ret
     exact ⟨(ret_b hD.out).symm, ((hb.alloc hz _).drew.trans (hb1.mono (by simp; omega)))⟩
    ·simp only [hr] at hC
     have hD := Hdz (hS.out.trans (hE.out.trans hr))
     clear hr hS hF hE
     go_wp2
     obtain ⟨p0, p2, p1, p3⟩ := BoxI.c bx0
     refine wRz ?_
     refine rZz 0 fun K hK => ?_; go_simp; apply hK; clear hK K
     refine rZz 1 fun K hK => ?_; go_simp
     (go_at_call 183; go_must (refine (hC _).mono ?_); rintro e w1 ⟨rfl, hb1⟩)
     go_simp
     apply hK
     clear hK K
     refine rZz 2 fun K hK => ?_; go_simp; apply hK; clear hK K
     refine rZz 3 fun K hK => ?_; go_simp; apply hK; clear hK K
     refine rZz 4 fun K hK => ?_; go_simp; apply hK; clear hK K
     refine rZz 5 fun K hK => ?_; go_simp; apply hK; clear hK K
     refine rZz 6 fun K hK => ?_; go_simp; apply hK; clear hK K
     try simp only [lAz]
     refine sA 7 ?_; try simp only [lAz]
     refine sA 8 ?_; try simp only [lAz]
     refine sA 9 ?_; try simp only [lAz]
     refine sA 10 ?_; try simp only [lAz]
     refine sA 11 ?_; try simp only [lAz]
     refine sA 12 ?_; try simp only [lAz]
     refine sA 13 ?_; try simp only [lAz]
     refine sA 14 ?_; try simp only [lAz]
     refine sA 15 ?_; try simp only [lAz]
     refine rZz 16 fun K hK => ?_; go_simp; apply hK; clear hK K
     refine rZz 17 fun K hK => ?_; go_simp; apply hK; clear hK K
     refine wDz ?_
     go_wp2
     go_roundw
     case rel => exact ⟨1, by omega, by go_num, hD, ((hb.alloc hz _).drew.trans (hb1.mono (by simp; omega)))⟩
     case measure => simp [Go.RowKit.intOf]; omega
   | succ j =>
    have hE : Hid (stepI l (j + 1) hk' = (l[j + 1].right && lessB l[j].key l[j + 1].key)) := by show _ = _; simp [stepI]
    have hj : j < l.length := by omega
    obtain ⟨j0, _⟩ := item_4 (w := wr) fun i u hu => (hb.cell (p := ⟨blk, off + j * 4 + i, none⟩) hbl).trans (item_cells (n := n) hcell hj i u hu)
    have hlj : (0 : Int) ≤ (j : Int) ∧ (j : Int) < (n : Int) := by omega
    obtain ⟨hlj1, hlj2⟩ := hlj
    have hw : IntKind.i64.wrap (j : Int) = (j : Int) := IntWalk.i64_in _ (by omega)
    generalize l[j + 1] = x at *
    generalize l[j] = y at *
    clear hcell h2 h1 hK
    have bx0 : BoxI (wr.alloc (.cells #[strV x.key, strV x.val, .int .i64 x.over, .int .i64 x.size] 144)) wr.heap.size x := Blk.new _ _ _
    have hC := fun W => right_any x W hx1 hx2
    cases hr : x.right
    ·simp only [hr] at hC
     have hD := Hdz (hF.out (by rw [hE.out, hr]; rfl))
     clear hr hS hF hE
     go_wp2
     obtain ⟨p0, p2, p1, p3⟩ := BoxI.c bx0
     refine wRz ?_
     refine rZz 0 fun K hK => ?_; go_simp; apply hK; clear hK K
     refine rZz 1 fun K hK => ?_; go_simp
     (go_at_call 183; go_must (refine (hC _).mono ?_); rintro e w1 ⟨rfl, hb1⟩)
     go_simp
     apply hK
     clear hK K
     refine rZz 2 fun K hK => ?_; go_simp; apply hK; clear hK K
     refine rZz 3 fun K hK => ?_; go_simp; apply hK; clear hK K
     try simp only [lAz]
     refine sA 4 ?_; try simp only [lAz]
     refine sA 5 ?_; try simp only [lAz]
     refine sA 6 ?_; try simp only [lAz]
     refine sA 7 ?_; try simp only [lAz]
     refine sA 8 ?_; try simp only [lAz]
     refine sA 9 ?_; try simp only [lAz]
     refine sA 10 ?_; try simp only [lAz]
     refine sA 11 ?_; try simp only [lAz]
     refine sA 12 ?_; try simp only [lAz]
     refine sA 13 ?_; try simp only [lAz]
     refine sA 14 ?_; try simp only [lAz]
     refine sA 15 ?_; try simp only [lAz]
     refine sA 16 ?_; try simp only [lAz]
     refine rZz 17 fun K hK => ?_; go_simp; apply hK; clear hK K
     refine wDz ?_
     go_wp2
     go_ret
     exact ⟨(ret_b hD.out).symm, ((hb.alloc hz _).drew.trans (hb1.mono (by simp; omega)))⟩
    ·simp only [hr] at hC
     cases hq : lessB y.key x.key
     ·have hD := Hdz (hF.out (by rw [hE.out, hr, hq]; rfl))
      clear hr hS hF hE
      go_wp2
      obtain ⟨p0, p2, p1, p3⟩ := BoxI.c bx0
      refine wRz ?_
      refine rZz 0 fun K hK => ?_; go_simp; apply hK; clear hK K
      refine rZz 1 fun K hK => ?_; go_simp
      (go_at_call 183; go_must (refine (hC _).mono ?_); rintro e w1 ⟨rfl, hb1⟩; have bx1 := Blk.below' (Blk.drew bx0) hb1; obtain ⟨r0, _⟩ := BoxI.c bx1; have hz1 := hb1.size; simp at hz1; have j1 : w1.cell? ⟨blk, off + j * 4, none⟩ = some (strV y.key) := (hb1.cell (p := ⟨blk, off + j * 4, none⟩) (by simp; omega)).trans ((World.cell?_alloc_past _ _ _ (by omega)).trans j0))
      go_simp
      apply hK
      clear hK K
      refine rZz 2 fun K hK => ?_; go_simp; apply hK; clear hK K
      refine rZz 3 fun K hK => ?_; go_simp; apply hK; clear hK K
      refine rZz 4 fun K hK => ?_; go_simp; apply hK; clear hK K
      refine rZz 5 fun K hK => ?_; go_simp; apply hK; clear hK K
      refine rZz 6 fun K hK => ?_; go_simp; apply hK; clear hK K
      try simp only [lAz]
      refine tA 7 ?_; try simp only [lAz]
      refine tA 8 ?_; try simp only [lAz]
      refine tA 9 ?_; try simp only [lAz]
      refine tA 10 ?_; try simp only [lAz]
      refine tA 11 ?_; try simp only [lAz]
      refine tA 13 ?_; try simp only [lAz]
      refine wpAny_ready (rs := [12, 14]) (by kernel_rfl) (by simp) (aCz (fun K hK => ?_) (aCz (fun K hK => ?_) AllReady.nil))
      ·go_simp
       apply hK
       clear hK K
       refine rZz 14 fun K hK => ?_; go_simp; apply hK; clear hK K
       refine rZz 15 fun K hK => ?_; go_simp; apply hK; clear hK K
       refine rZz 16 fun K hK => ?_; go_simp; apply hK; clear hK K
       refine rZz 17 fun K hK => ?_; go_simp; apply hK; clear hK K
       refine wDz ?_
       go_wp2
       go_ret
       exact ⟨(ret_b hD.out).symm, ((hb.alloc hz _).drew.trans (hb1.mono (by simp; omega)))⟩
      ·go_simp
       apply hK
       clear hK K
       refine rZz 12 fun K hK => ?_; go_simp; apply hK; clear hK K
       refine rZz 15 fun K hK => ?_; go_simp; apply hK; clear hK K
       refine rZz 16 fun K hK => ?_; go_simp; apply hK; clear hK K
       refine rZz 17 fun K hK => ?_; go_simp; apply hK; clear hK K
       refine wDz ?_
       go_wp2
       go_ret
       exact ⟨(ret_b hD.out).symm, ((hb.alloc hz _).drew.trans (hb1.mono (by simp; omega)))⟩
     ·have hD := Hdz (hS.out.trans (by rw [hE.out, hr, hq] <;> rfl))
      clear hr hS hF hE
      go_wp2
      obtain ⟨p0, p2, p1, p3⟩ := BoxI.c bx0
      refine wRz ?_
      refine rZz 0 fun K hK => ?_; go_simp; apply hK; clear hK K
      refine rZz 1 fun K hK => ?_; go_simp
      (go_at_call 183; go_must (refine (hC _).mono ?_); rintro e w1 ⟨rfl, hb1⟩; have bx1 := Blk.below' (Blk.drew bx0) hb1; obtain ⟨r0, _⟩ := BoxI.c bx1; have hz1 := hb1.size; simp at hz1; have j1 : w1.cell? ⟨blk, off + j * 4, none⟩ = some (strV y.key) := (hb1.cell (p := ⟨blk, off + j * 4, none⟩) (by simp; omega)).trans ((World.cell?_alloc_past _ _ _ (by omega)).trans j0))
      go_simp
      apply hK
      clear hK K
      refine rZz 2 fun K hK => ?_; go_simp; apply hK; clear hK K
      refine rZz 3 fun K hK => ?_; go_simp; apply hK; clear hK K
      refine rZz 4 fun K hK => ?_; go_simp; apply hK; clear hK K
      refine rZz 5 fun K hK => ?_; go_simp; apply hK; clear hK K
      refine rZz 6 fun K hK => ?_; go_simp; apply hK; clear hK K
      try simp only [lAz]
      refine tA 7 ?_; try simp only [lAz]
      refine tA 8 ?_; try simp only [lAz]
      refine tA 9 ?_; try simp only [lAz]
      refine tA 10 ?_; try simp only [lAz]
      refine tA 11 ?_; try simp only [lAz]
      refine tA 13 ?_; try simp only [lAz]
      refine wpAny_ready (rs := [12, 14]) (by kernel_rfl) (by simp) (aCz (fun K hK => ?_) (aCz (fun K hK => ?_) AllReady.nil))
      ·go_simp
       apply hK
       clear hK K
       refine rZz 14 fun K hK => ?_; go_simp; apply hK; clear hK K
       refine rZz 15 fun K hK => ?_; go_simp; apply hK; clear hK K
       refine rZz 16 fun K hK => ?_; go_simp; apply hK; clear hK K
       refine rZz 17 fun K hK => ?_; go_simp; apply hK; clear hK K
       refine wDz ?_
       go_wp2
       go_roundw
       case rel => exact ⟨j + 1 + 1, by omega, by go_num, hD, ((hb.alloc hz _).drew.trans (hb1.mono (by simp; omega)))⟩
       case measure => simp [Go.RowKit.intOf]; omega
      ·go_simp
       apply hK
       clear hK K
       refine rZz 12 fun K hK => ?_; go_simp; apply hK; clear hK K
       refine rZz 15 fun K hK => ?_; go_simp; apply hK; clear hK K
       refine rZz 16 fun K hK => ?_; go_simp; apply hK; clear hK K
       refine rZz 17 fun K hK => ?_; go_simp; apply hK; clear hK K
       refine wDz ?_
       go_wp2
       go_roundw
       case rel => exact ⟨j + 1 + 1, by omega, by go_num, hD, ((hb.alloc hz _).drew.trans (hb1.mono (by simp; omega)))⟩
       case measure => simp [Go.RowKit.intOf]; omega
  ·have hkn : k = n := by omega
   subst hkn
   have hr := Hdz ((congrArg riseI (List.take_of_length_le (show l.length ≤ k by omega))).symm.trans hR.out)
   clear hv hl1
   go_wp2
   go_ret
   exact ⟨(ret_b hr.out).symm, hb⟩
structure ItemsOk (l : List Item) : Prop where
 keys : KeysOk l
 nums : ∀ x ∈ l, I64 x.over ∧ I64 x.size
 len : (layI l).length ≤ 100000
 few : l.length ≤ 100000
theorem Sl.len4 {w : World} {A : Option Addr} {n c : Nat} {l : List Item} (h : Sl w 4 (.slice A n c) n (itemsCs l)) : l.length = n := by
 obtain ⟨_, _, e, _, h1, _⟩ := h
 rw [itemsCs_len] at h1
 omega
def PutPost (l : List Item) (w : World) (e : Ending) (w' : World) : Prop := e = .returned (.tuple #[strV (putI l).1, .int .i64 (putI l).2]) ∧ Below w.heap.size w w'
theorem putI_any (A : Option Addr) (n c : Nat) (l : List Item) (w : World) (hv : Sl w 4 (.slice A n c) n (itemsCs l)) (ho : ItemsOk l) :
  Calls Tryz.prog 107 #[.slice A n c] w (PutPost l w) := by
 have hn : n ≤ 100000 := by have := hv.len4; have := ho.few; omega
 have hR := fun W (h : Sl W 4 (.slice A n c) n (itemsCs l)) => rise_any A n c l W h hn ho.keys
 have hLn := ho.len
 cases hr : riseI l
 ·have hp := Hdz (show putI l = ([], 1) by unfold putI; rw [if_pos hr])
  simp only [hr] at hR
  have HR := Hdz hR
  clear hR hr hLn
  go_enter Tryz.func107, Tryz.ntmps107
  go_wp2_with (go_at_call 150; go_must (refine (HR.out _ hv).mono ?_); rintro e w1 ⟨rfl, hb1⟩)
  go_ret2
  exact ⟨by rw [hp.out] <;> rfl, hb1⟩
 ·simp only [hr] at hR
  have HR := Hdz hR
  have hL := Hdz (fun W (h : Sl W 4 (.slice A n c) n (itemsCs l)) => lay_any A n c l W h ho.len hn ho.nums)
  by_cases h240 : 240 < (layI l).length
  ·have hp := Hdz (show putI l = ([], 2) by unfold putI; rw [if_neg (by simp [hr]), if_pos h240])
   have h240' : (240 : Int) < ((layI l).length : Int) := by omega
   clear hR hr h240
   go_enter Tryz.func107, Tryz.ntmps107
   go_wp2_with (first
    | (go_at_call 150; go_must (refine (HR.out _ hv).mono ?_); rintro e w1 ⟨rfl, hb1⟩)
    | (go_at_call 151; go_must (refine (hL.out _ (hv.below hb1)).mono ?_); rintro e w2 ⟨rfl, hb2⟩))
   go_ret2
   exact ⟨by rw [hp.out] <;> rfl, hb1.trans (hb2.mono hb1.size)⟩
  ·have hp := Hdz (show putI l = (layI l, 0) by unfold putI; rw [if_neg (by simp [hr]), if_neg h240])
   have h240' : ¬ (240 : Int) < ((layI l).length : Int) := by omega
   clear hR hr h240
   go_enter Tryz.func107, Tryz.ntmps107
   go_wp2_with (first
    | (go_at_call 150; go_must (refine (HR.out _ hv).mono ?_); rintro e w1 ⟨rfl, hb1⟩)
    | (go_at_call 151; go_must (refine (hL.out _ (hv.below hb1)).mono ?_); rintro e w2 ⟨rfl, hb2⟩))
   go_ret2
   exact ⟨by rw [hp.out] <;> rfl, hb1.trans (hb2.mono hb1.size)⟩
theorem sizeI_any (A : Option Addr) (n c : Nat) (l : List Item) (w : World) (hv : Sl w 4 (.slice A n c) n (itemsCs l)) (ho : ItemsOk l) :
  Calls Tryz.prog 152 #[.slice A n c] w fun e w' => e = .returned (.int .i64 (layI l).length) ∧ Below w.heap.size w w' := by
 have hn : n ≤ 100000 := by have := hv.len4; have := ho.few; omega
 have hL := Hdz (lay_any A n c l w hv ho.len hn ho.nums)
 have hLn := ho.len
 go_enter Tryz.func152, Tryz.ntmps152
 go_wp2_with (go_at_call 151; go_must (refine hL.out.mono ?_); rintro e w2 ⟨rfl, hb2⟩)
 go_ret
 exact ⟨rfl, hb2⟩
end Go.Ev
