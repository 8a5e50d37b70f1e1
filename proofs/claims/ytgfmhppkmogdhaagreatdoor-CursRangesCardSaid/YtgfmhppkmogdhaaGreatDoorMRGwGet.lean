/-
  Are items right, and do their keys rise. Keys are compared; a key is looked for among items. Items are copied. Items are laid into a leaf's bytes, or refused; how many bytes they have. Items are read from a leaf's bytes, whatever they are.
-/
import Derived.Test.YtgfmhppkmogdhaaGreatDoorMREvInsert
import Derived.Test.YtgfmhppkmogdhaaGreatDoorMRGwRight
import Derived.Test.YtgfmhppkmogdhaaGreatDoorMRGvGet
import Derived.WalkLawsBesides
import Derived.Test.YtgfmhppkmogdhaaGreatDoorMRGvFind
import Derived.Deep.LoopGhost
set_option linter.unusedVariables false
set_option linter.unusedSimpArgs false
set_option linter.unusedVariables false
set_option linter.unusedSimpArgs false
namespace Go.Ev
open Go.Proofs Go.RowKit

theorem item_4 {w : World} {blk o : Nat} {x : Item} (h : ∀ j u, (itemCs x)[j]? = some u → w.cell? ⟨blk, o + j, none⟩ = some u) :
    w.cell? ⟨blk, o, none⟩ = some (strV x.key) ∧ w.cell? ⟨blk, o + 1, none⟩ = some (strV x.val) ∧ w.cell? ⟨blk, o + 2, none⟩ = some (.int .i64 x.over) ∧ w.cell? ⟨blk, o + 3, none⟩ = some (.int .i64 x.size) :=
  ⟨h 0 _ rfl, h 1 _ rfl, h 2 _ rfl, h 3 _ rfl⟩

def KeysOk (l : List Item) : Prop := ∀ x ∈ l, x.key.length ≤ 9223372036854775807 ∧ x.val.length ≤ 9223372036854775807

set_option maxHeartbeats 4000000 in
set_option maxRecDepth 100000 in
theorem rise_any (A : Option Addr) (n c : Nat) (l : List Item) (w : World) (hv : Sl w 4 (.slice A n c) n (itemsCs l)) (hn : n ≤ 100000) (hK : KeysOk l) :
    Calls Tryz.prog 205 #[.slice A n c] w fun e w' => e = .returned (.bool (riseI l)) ∧ Below w.heap.size w w' := by
  have hl1 : l.length = n := by obtain ⟨_, _, e, _, h1, _⟩ := hv; rw [itemsCs_len] at h1; omega
  go_enter Tryz.func205, Tryz.ntmps205
  go_wp2
  go_loopw [7] (fun i wr => ∃ (k : Nat), k ≤ n ∧ i = .int .i64 (k : Int) ∧ Hid (riseI (l.take k) = true) ∧ Below w.heap.size w wr) (fun i _ => n - (Go.RowKit.intOf i).toNat)
  case atStart => exact ⟨0, by omega, rfl, rfl, Below.refl _ _⟩
  case round =>
    obtain ⟨k, hk, rfl, hR, hb⟩ := hrel
    have hz := hb.size
    by_cases hlt : k < n
    · obtain ⟨A', c', e0, h0, h1, h2⟩ := hv
      cases e0
      obtain ⟨blk, off, rfl, hbl, hcell⟩ := h2 (by omega)
      have hk' : k < l.length := by omega
      obtain ⟨i0, i1, i2, i3⟩ := item_4 (w := wr) fun j u hu => (hb.cell (p := ⟨blk, off + k * 4 + j, none⟩) hbl).trans (item_cells (n := n) hcell hk' j u hu)
      obtain ⟨hx1, hx2⟩ := hK l[k] (List.getElem_mem hk')
      have hS := Lib.hid (riseI_step hk' hR.out)
      have hF := Lib.hid (riseI_fail hk' hR.out)
      cases k with
      | zero =>
        have hE : Hid (stepI l 0 hk' = l[0].right) := by show _ = _; simp [stepI]
        simp only [Nat.zero_mul, Nat.add_zero] at i0 i1 i2 i3
        generalize l[0] = x at *
        clear hcell h2 h1 hK
        have bx0 : BoxI (wr.alloc (.cells #[strV x.key, strV x.val, .int .i64 x.over, .int .i64 x.size] 107)) wr.heap.size x := Blk.new _ _ _
        have hC := fun W => right_any x W hx1 hx2
        cases hr : x.right
        · simp only [hr] at hC
          have hD := Lib.hid (hF.out (hE.out.trans hr))
          clear hr hS hF hE
          go_wp2
          obtain ⟨p0, p2, p1, p3⟩ := BoxI.c bx0
          refine wp_region_any (by kernel_rfl) ?_
          change wpAny _ _ _ _ _ _ _ (World.drew _)
          refine rd 0 (by kernel_rfl) rfl (fun K hK => ?_)
          go_simp
          refine hK _ _ ?_
          clear hK K
          refine rd 1 (by kernel_rfl) rfl (fun K hK => ?_)
          go_simp
          (go_at_call 244; go_must (refine (hC _).mono ?_); rintro e w1 ⟨rfl, hb1⟩)
          go_simp
          refine hK _ _ ?_
          clear hK K
          refine rd 2 (by kernel_rfl) rfl (fun K hK => ?_)
          go_simp
          refine hK _ _ ?_
          clear hK K
          refine rd 3 (by kernel_rfl) rfl (fun K hK => ?_)
          go_simp
          refine hK _ _ ?_
          clear hK K
          try simp only [Act.put, lT, l0, lS]
          refine sk 4 rfl (by kernel_rfl) (fun _ _ _ h => h) (by rfl) ?_
          try simp only [Act.put, lT, l0, lS]
          refine sk 5 rfl (by kernel_rfl) (fun _ _ _ h => h) (by rfl) ?_
          try simp only [Act.put, lT, l0, lS]
          refine sk 6 rfl (by kernel_rfl) (fun _ _ _ h => h) (by rfl) ?_
          try simp only [Act.put, lT, l0, lS]
          refine sk 7 rfl (by kernel_rfl) (fun _ _ _ h => h) (by rfl) ?_
          try simp only [Act.put, lT, l0, lS]
          refine sk 8 rfl (by kernel_rfl) (fun _ _ _ h => h) (by rfl) ?_
          try simp only [Act.put, lT, l0, lS]
          refine sk 9 rfl (by kernel_rfl) (fun _ _ _ h => h) (by rfl) ?_
          try simp only [Act.put, lT, l0, lS]
          refine sk 10 rfl (by kernel_rfl) (fun _ _ _ h => h) (by rfl) ?_
          try simp only [Act.put, lT, l0, lS]
          refine sk 11 rfl (by kernel_rfl) (fun _ _ _ h => h) (by rfl) ?_
          try simp only [Act.put, lT, l0, lS]
          refine sk 12 rfl (by kernel_rfl) (fun _ _ _ h => h) (by rfl) ?_
          try simp only [Act.put, lT, l0, lS]
          refine sk 13 rfl (by kernel_rfl) (fun _ _ _ h => h) (by rfl) ?_
          try simp only [Act.put, lT, l0, lS]
          refine sk 14 rfl (by kernel_rfl) (fun _ _ _ h => h) (by rfl) ?_
          try simp only [Act.put, lT, l0, lS]
          refine sk 15 rfl (by kernel_rfl) (fun _ _ _ h => h) (by rfl) ?_
          try simp only [Act.put, lT, l0, lS]
          refine sk 16 rfl (by kernel_rfl) (fun _ _ _ h => h) (by rfl) ?_
          try simp only [Act.put, lT, l0, lS]
          refine rd 17 (by kernel_rfl) rfl (fun K hK => ?_)
          go_simp
          refine hK _ _ ?_
          clear hK K
          refine wpAny_done (by kernel_rfl) ?_ _
          go_wp2
          go_ret
          exact ⟨(ret_b hD.out).symm, ((hb.alloc hz _).drew.trans (hb1.mono (by simp; omega)))⟩
        · simp only [hr] at hC
          have hD := Lib.hid (hS.out.trans (hE.out.trans hr))
          clear hr hS hF hE
          go_wp2
          obtain ⟨p0, p2, p1, p3⟩ := BoxI.c bx0
          refine wp_region_any (by kernel_rfl) ?_
          change wpAny _ _ _ _ _ _ _ (World.drew _)
          refine rd 0 (by kernel_rfl) rfl (fun K hK => ?_)
          go_simp
          refine hK _ _ ?_
          clear hK K
          refine rd 1 (by kernel_rfl) rfl (fun K hK => ?_)
          go_simp
          (go_at_call 244; go_must (refine (hC _).mono ?_); rintro e w1 ⟨rfl, hb1⟩)
          go_simp
          refine hK _ _ ?_
          clear hK K
          refine rd 2 (by kernel_rfl) rfl (fun K hK => ?_)
          go_simp
          refine hK _ _ ?_
          clear hK K
          refine rd 3 (by kernel_rfl) rfl (fun K hK => ?_)
          go_simp
          refine hK _ _ ?_
          clear hK K
          refine rd 4 (by kernel_rfl) rfl (fun K hK => ?_)
          go_simp
          refine hK _ _ ?_
          clear hK K
          refine rd 5 (by kernel_rfl) rfl (fun K hK => ?_)
          go_simp
          refine hK _ _ ?_
          clear hK K
          refine rd 6 (by kernel_rfl) rfl (fun K hK => ?_)
          go_simp
          refine hK _ _ ?_
          clear hK K
          try simp only [Act.put, lT, l0, lS]
          refine sk 7 rfl (by kernel_rfl) (fun _ _ _ h => h) (by rfl) ?_
          try simp only [Act.put, lT, l0, lS]
          refine sk 8 rfl (by kernel_rfl) (fun _ _ _ h => h) (by rfl) ?_
          try simp only [Act.put, lT, l0, lS]
          refine sk 9 rfl (by kernel_rfl) (fun _ _ _ h => h) (by rfl) ?_
          try simp only [Act.put, lT, l0, lS]
          refine sk 10 rfl (by kernel_rfl) (fun _ _ _ h => h) (by rfl) ?_
          try simp only [Act.put, lT, l0, lS]
          refine sk 11 rfl (by kernel_rfl) (fun _ _ _ h => h) (by rfl) ?_
          try simp only [Act.put, lT, l0, lS]
          refine sk 12 rfl (by kernel_rfl) (fun _ _ _ h => h) (by rfl) ?_
          try simp only [Act.put, lT, l0, lS]
          refine sk 13 rfl (by kernel_rfl) (fun _ _ _ h => h) (by rfl) ?_
          try simp only [Act.put, lT, l0, lS]
          refine sk 14 rfl (by kernel_rfl) (fun _ _ _ h => h) (by rfl) ?_
          try simp only [Act.put, lT, l0, lS]
          refine sk 15 rfl (by kernel_rfl) (fun _ _ _ h => h) (by rfl) ?_
          try simp only [Act.put, lT, l0, lS]
          refine rd 16 (by kernel_rfl) rfl (fun K hK => ?_)
          go_simp
          refine hK _ _ ?_
          clear hK K
          refine rd 17 (by kernel_rfl) rfl (fun K hK => ?_)
          go_simp
          refine hK _ _ ?_
          clear hK K
          refine wpAny_done (by kernel_rfl) ?_ _
          go_wp2
          go_roundw
          case rel => exact ⟨1, by omega, by go_num, hD, ((hb.alloc hz _).drew.trans (hb1.mono (by simp; omega)))⟩
          case measure => simp [Go.RowKit.intOf]; omega
      | succ j =>
        have hE : Hid (stepI l (j + 1) hk' = (l[j + 1].right && lessB l[j].key l[j + 1].key)) := by show _ = _; simp [stepI]
        have hj : j < l.length := by omega
        obtain ⟨j0, _⟩ := item_4 (w := wr) fun i u hu => (hb.cell (p := ⟨blk, off + j * 4 + i, none⟩) hbl).trans (item_cells (n := n) hcell hj i u hu)
        have hlj : (0 : Int) ≤ (j : Int) ∧ (j : Int) < (n : Int) := by omega
        obtain ⟨hlj1, hlj2⟩ := hlj
        have hw : IntKind.i64.wrap (j : Int) = (j : Int) := IntWalk.i64_in _ (by omega)
        generalize l[j + 1] = x at *
        generalize l[j] = y at *
        clear hcell h2 h1 hK
        have bx0 : BoxI (wr.alloc (.cells #[strV x.key, strV x.val, .int .i64 x.over, .int .i64 x.size] 107)) wr.heap.size x := Blk.new _ _ _
        have hC := fun W => right_any x W hx1 hx2
        cases hr : x.right
        · simp only [hr] at hC
          have hD := Lib.hid (hF.out (by rw [hE.out, hr]; rfl))
          clear hr hS hF hE
          go_wp2
          obtain ⟨p0, p2, p1, p3⟩ := BoxI.c bx0
          refine wp_region_any (by kernel_rfl) ?_
          change wpAny _ _ _ _ _ _ _ (World.drew _)
          refine rd 0 (by kernel_rfl) rfl (fun K hK => ?_)
          go_simp
          refine hK _ _ ?_
          clear hK K
          refine rd 1 (by kernel_rfl) rfl (fun K hK => ?_)
          go_simp
          (go_at_call 244; go_must (refine (hC _).mono ?_); rintro e w1 ⟨rfl, hb1⟩)
          go_simp
          refine hK _ _ ?_
          clear hK K
          refine rd 2 (by kernel_rfl) rfl (fun K hK => ?_)
          go_simp
          refine hK _ _ ?_
          clear hK K
          refine rd 3 (by kernel_rfl) rfl (fun K hK => ?_)
          go_simp
          refine hK _ _ ?_
          clear hK K
          try simp only [Act.put, lT, l0, lS]
          refine sk 4 rfl (by kernel_rfl) (fun _ _ _ h => h) (by rfl) ?_
          try simp only [Act.put, lT, l0, lS]
          refine sk 5 rfl (by kernel_rfl) (fun _ _ _ h => h) (by rfl) ?_
          try simp only [Act.put, lT, l0, lS]
          refine sk 6 rfl (by kernel_rfl) (fun _ _ _ h => h) (by rfl) ?_
          try simp only [Act.put, lT, l0, lS]
          refine sk 7 rfl (by kernel_rfl) (fun _ _ _ h => h) (by rfl) ?_
          try simp only [Act.put, lT, l0, lS]
          refine sk 8 rfl (by kernel_rfl) (fun _ _ _ h => h) (by rfl) ?_
          try simp only [Act.put, lT, l0, lS]
          refine sk 9 rfl (by kernel_rfl) (fun _ _ _ h => h) (by rfl) ?_
          try simp only [Act.put, lT, l0, lS]
          refine sk 10 rfl (by kernel_rfl) (fun _ _ _ h => h) (by rfl) ?_
          try simp only [Act.put, lT, l0, lS]
          refine sk 11 rfl (by kernel_rfl) (fun _ _ _ h => h) (by rfl) ?_
          try simp only [Act.put, lT, l0, lS]
          refine sk 12 rfl (by kernel_rfl) (fun _ _ _ h => h) (by rfl) ?_
          try simp only [Act.put, lT, l0, lS]
          refine sk 13 rfl (by kernel_rfl) (fun _ _ _ h => h) (by rfl) ?_
          try simp only [Act.put, lT, l0, lS]
          refine sk 14 rfl (by kernel_rfl) (fun _ _ _ h => h) (by rfl) ?_
          try simp only [Act.put, lT, l0, lS]
          refine sk 15 rfl (by kernel_rfl) (fun _ _ _ h => h) (by rfl) ?_
          try simp only [Act.put, lT, l0, lS]
          refine sk 16 rfl (by kernel_rfl) (fun _ _ _ h => h) (by rfl) ?_
          try simp only [Act.put, lT, l0, lS]
          refine rd 17 (by kernel_rfl) rfl (fun K hK => ?_)
          go_simp
          refine hK _ _ ?_
          clear hK K
          refine wpAny_done (by kernel_rfl) ?_ _
          go_wp2
          go_ret
          exact ⟨(ret_b hD.out).symm, ((hb.alloc hz _).drew.trans (hb1.mono (by simp; omega)))⟩
        · simp only [hr] at hC
          cases hq : lessB y.key x.key
          · have hD := Lib.hid (hF.out (by rw [hE.out, hr, hq]; rfl))
            clear hr hS hF hE
            go_wp2
            obtain ⟨p0, p2, p1, p3⟩ := BoxI.c bx0
            refine wp_region_any (by kernel_rfl) ?_
            change wpAny _ _ _ _ _ _ _ (World.drew _)
            refine rd 0 (by kernel_rfl) rfl (fun K hK => ?_)
            go_simp
            refine hK _ _ ?_
            clear hK K
            refine rd 1 (by kernel_rfl) rfl (fun K hK => ?_)
            go_simp
            (go_at_call 244; go_must (refine (hC _).mono ?_); rintro e w1 ⟨rfl, hb1⟩; have bx1 := Blk.below' (Blk.drew bx0) hb1; obtain ⟨r0, _⟩ := BoxI.c bx1; have hz1 := hb1.size; simp at hz1; have j1 : w1.cell? ⟨blk, off + j * 4, none⟩ = some (strV y.key) := (hb1.cell (p := ⟨blk, off + j * 4, none⟩) (by simp; omega)).trans ((World.cell?_alloc_past _ _ _ (by omega)).trans j0))
            go_simp
            refine hK _ _ ?_
            clear hK K
            refine rd 2 (by kernel_rfl) rfl (fun K hK => ?_)
            go_simp
            refine hK _ _ ?_
            clear hK K
            refine rd 3 (by kernel_rfl) rfl (fun K hK => ?_)
            go_simp
            refine hK _ _ ?_
            clear hK K
            refine rd 4 (by kernel_rfl) rfl (fun K hK => ?_)
            go_simp
            refine hK _ _ ?_
            clear hK K
            refine rd 5 (by kernel_rfl) rfl (fun K hK => ?_)
            go_simp
            refine hK _ _ ?_
            clear hK K
            refine rd 6 (by kernel_rfl) rfl (fun K hK => ?_)
            go_simp
            refine hK _ _ ?_
            clear hK K
            try simp only [Act.put, lT, l0, lS]
            refine tk 7 (v := ?_) rfl (by kernel_rfl) (fun _ _ _ h => h) (by rfl) ?hy ?_
            case hy => intro w; go_simp; try with_reducible rfl
            try simp only [Act.put, lT, l0, lS]
            refine tk 8 (v := ?_) rfl (by kernel_rfl) (fun _ _ _ h => h) (by rfl) ?hy ?_
            case hy => intro w; go_simp; try with_reducible rfl
            try simp only [Act.put, lT, l0, lS]
            refine tk 9 (v := ?_) rfl (by kernel_rfl) (fun _ _ _ h => h) (by rfl) ?hy ?_
            case hy => intro w; go_simp; try with_reducible rfl
            try simp only [Act.put, lT, l0, lS]
            refine tk 10 (v := ?_) rfl (by kernel_rfl) (fun _ _ _ h => h) (by rfl) ?hy ?_
            case hy => intro w; go_simp; try with_reducible rfl
            try simp only [Act.put, lT, l0, lS]
            refine tk 11 (v := ?_) rfl (by kernel_rfl) (fun _ _ _ h => h) (by rfl) ?hy ?_
            case hy => intro w; go_simp; try with_reducible rfl
            try simp only [Act.put, lT, l0, lS]
            refine tk 13 (v := ?_) rfl (by kernel_rfl) (fun _ _ _ h => h) (by rfl) ?hy ?_
            case hy => intro w; go_simp; try with_reducible rfl
            try simp only [Act.put, lT, l0, lS]
            refine wpAny_ready (rs := [12, 14]) (by kernel_rfl) (by simp) (AllReady.cons (o := { dst := _, op := _, type := _, pos := _, after := _, guard := _ }) rfl (fun K hK => ?_) (AllReady.cons (o := { dst := _, op := _, type := _, pos := _, after := _, guard := _ }) rfl (fun K hK => ?_) AllReady.nil))
            · go_simp
              refine hK _ _ ?_
              clear hK K
              refine rd 14 (by kernel_rfl) rfl (fun K hK => ?_)
              go_simp
              refine hK _ _ ?_
              clear hK K
              refine rd 15 (by kernel_rfl) rfl (fun K hK => ?_)
              go_simp
              refine hK _ _ ?_
              clear hK K
              refine rd 16 (by kernel_rfl) rfl (fun K hK => ?_)
              go_simp
              refine hK _ _ ?_
              clear hK K
              refine rd 17 (by kernel_rfl) rfl (fun K hK => ?_)
              go_simp
              refine hK _ _ ?_
              clear hK K
              refine wpAny_done (by kernel_rfl) ?_ _
              go_wp2
              go_ret
              exact ⟨(ret_b hD.out).symm, ((hb.alloc hz _).drew.trans (hb1.mono (by simp; omega)))⟩
            · go_simp
              refine hK _ _ ?_
              clear hK K
              refine rd 12 (by kernel_rfl) rfl (fun K hK => ?_)
              go_simp
              refine hK _ _ ?_
              clear hK K
              refine rd 15 (by kernel_rfl) rfl (fun K hK => ?_)
              go_simp
              refine hK _ _ ?_
              clear hK K
              refine rd 16 (by kernel_rfl) rfl (fun K hK => ?_)
              go_simp
              refine hK _ _ ?_
              clear hK K
              refine rd 17 (by kernel_rfl) rfl (fun K hK => ?_)
              go_simp
              refine hK _ _ ?_
              clear hK K
              refine wpAny_done (by kernel_rfl) ?_ _
              go_wp2
              go_ret
              exact ⟨(ret_b hD.out).symm, ((hb.alloc hz _).drew.trans (hb1.mono (by simp; omega)))⟩
          · have hD := Lib.hid (hS.out.trans (by rw [hE.out, hr, hq] <;> rfl))
            clear hr hS hF hE
            go_wp2
            obtain ⟨p0, p2, p1, p3⟩ := BoxI.c bx0
            refine wp_region_any (by kernel_rfl) ?_
            change wpAny _ _ _ _ _ _ _ (World.drew _)
            refine rd 0 (by kernel_rfl) rfl (fun K hK => ?_)
            go_simp
            refine hK _ _ ?_
            clear hK K
            refine rd 1 (by kernel_rfl) rfl (fun K hK => ?_)
            go_simp
            (go_at_call 244; go_must (refine (hC _).mono ?_); rintro e w1 ⟨rfl, hb1⟩; have bx1 := Blk.below' (Blk.drew bx0) hb1; obtain ⟨r0, _⟩ := BoxI.c bx1; have hz1 := hb1.size; simp at hz1; have j1 : w1.cell? ⟨blk, off + j * 4, none⟩ = some (strV y.key) := (hb1.cell (p := ⟨blk, off + j * 4, none⟩) (by simp; omega)).trans ((World.cell?_alloc_past _ _ _ (by omega)).trans j0))
            go_simp
            refine hK _ _ ?_
            clear hK K
            refine rd 2 (by kernel_rfl) rfl (fun K hK => ?_)
            go_simp
            refine hK _ _ ?_
            clear hK K
            refine rd 3 (by kernel_rfl) rfl (fun K hK => ?_)
            go_simp
            refine hK _ _ ?_
            clear hK K
            refine rd 4 (by kernel_rfl) rfl (fun K hK => ?_)
            go_simp
            refine hK _ _ ?_
            clear hK K
            refine rd 5 (by kernel_rfl) rfl (fun K hK => ?_)
            go_simp
            refine hK _ _ ?_
            clear hK K
            refine rd 6 (by kernel_rfl) rfl (fun K hK => ?_)
            go_simp
            refine hK _ _ ?_
            clear hK K
            try simp only [Act.put, lT, l0, lS]
            refine tk 7 (v := ?_) rfl (by kernel_rfl) (fun _ _ _ h => h) (by rfl) ?hy ?_
            case hy => intro w; go_simp; try with_reducible rfl
            try simp only [Act.put, lT, l0, lS]
            refine tk 8 (v := ?_) rfl (by kernel_rfl) (fun _ _ _ h => h) (by rfl) ?hy ?_
            case hy => intro w; go_simp; try with_reducible rfl
            try simp only [Act.put, lT, l0, lS]
            refine tk 9 (v := ?_) rfl (by kernel_rfl) (fun _ _ _ h => h) (by rfl) ?hy ?_
            case hy => intro w; go_simp; try with_reducible rfl
            try simp only [Act.put, lT, l0, lS]
            refine tk 10 (v := ?_) rfl (by kernel_rfl) (fun _ _ _ h => h) (by rfl) ?hy ?_
            case hy => intro w; go_simp; try with_reducible rfl
            try simp only [Act.put, lT, l0, lS]
            refine tk 11 (v := ?_) rfl (by kernel_rfl) (fun _ _ _ h => h) (by rfl) ?hy ?_
            case hy => intro w; go_simp; try with_reducible rfl
            try simp only [Act.put, lT, l0, lS]
            refine tk 13 (v := ?_) rfl (by kernel_rfl) (fun _ _ _ h => h) (by rfl) ?hy ?_
            case hy => intro w; go_simp; try with_reducible rfl
            try simp only [Act.put, lT, l0, lS]
            refine wpAny_ready (rs := [12, 14]) (by kernel_rfl) (by simp) (AllReady.cons (o := { dst := _, op := _, type := _, pos := _, after := _, guard := _ }) rfl (fun K hK => ?_) (AllReady.cons (o := { dst := _, op := _, type := _, pos := _, after := _, guard := _ }) rfl (fun K hK => ?_) AllReady.nil))
            · go_simp
              refine hK _ _ ?_
              clear hK K
              refine rd 14 (by kernel_rfl) rfl (fun K hK => ?_)
              go_simp
              refine hK _ _ ?_
              clear hK K
              refine rd 15 (by kernel_rfl) rfl (fun K hK => ?_)
              go_simp
              refine hK _ _ ?_
              clear hK K
              refine rd 16 (by kernel_rfl) rfl (fun K hK => ?_)
              go_simp
              refine hK _ _ ?_
              clear hK K
              refine rd 17 (by kernel_rfl) rfl (fun K hK => ?_)
              go_simp
              refine hK _ _ ?_
              clear hK K
              refine wpAny_done (by kernel_rfl) ?_ _
              go_wp2
              go_roundw
              case rel => exact ⟨j + 1 + 1, by omega, by go_num, hD, ((hb.alloc hz _).drew.trans (hb1.mono (by simp; omega)))⟩
              case measure => simp [Go.RowKit.intOf]; omega
            · go_simp
              refine hK _ _ ?_
              clear hK K
              refine rd 12 (by kernel_rfl) rfl (fun K hK => ?_)
              go_simp
              refine hK _ _ ?_
              clear hK K
              refine rd 15 (by kernel_rfl) rfl (fun K hK => ?_)
              go_simp
              refine hK _ _ ?_
              clear hK K
              refine rd 16 (by kernel_rfl) rfl (fun K hK => ?_)
              go_simp
              refine hK _ _ ?_
              clear hK K
              refine rd 17 (by kernel_rfl) rfl (fun K hK => ?_)
              go_simp
              refine hK _ _ ?_
              clear hK K
              refine wpAny_done (by kernel_rfl) ?_ _
              go_wp2
              go_roundw
              case rel => exact ⟨j + 1 + 1, by omega, by go_num, hD, ((hb.alloc hz _).drew.trans (hb1.mono (by simp; omega)))⟩
              case measure => simp [Go.RowKit.intOf]; omega
    · have hkn : k = n := by omega
      subst hkn
      have hr := Lib.hid ((congrArg riseI (List.take_of_length_le (show l.length ≤ k by omega))).symm.trans hR.out)
      clear hv hl1
      go_wp2
      go_ret
      exact ⟨(ret_b hr.out).symm, hb⟩
end Go.Ev

set_option linter.unusedVariables false
set_option linter.unusedSimpArgs false
namespace Go.Ev
open Go.Proofs Go.RowKit

/-- Two texts compared. -/
def cmpB (a b : Bytes) : Int := if lessB a b = true then -1 else if lessB b a = true then 1 else 0

theorem nan_any (a : Bytes) (w : World) : Calls Tryz.prog 195 #[strV a] w fun e w' => e = .returned (.bool false) ∧ w' = w := by
  have hk : (!a == a) = false := by simp
  go_enter Tryz.func195, Tryz.ntmps195
  go_wp2
  go_ret
  exact ⟨rfl, rfl⟩

theorem cmp_any (a b : Bytes) (w : World) : Calls Tryz.prog 131 #[strV a, strV b] w fun e w' => e = .returned (.int .i64 (cmpB a b)) ∧ w' = w := by
  cases h1 : lessB a b
  · cases h2 : lessB b a
    · have hC := Lib.hid (show cmpB a b = 0 by simp [cmpB, h1, h2])
      have he : (!a == b) = false := by
        rcases lessB_total a b with h | h | h
        · rw [h1] at h; cases h
        · simp [h]
        · rw [h2] at h; cases h
      go_enter Tryz.func131, Tryz.ntmps131
      go_wp2_with (go_at_call 195; go_must (refine (nan_any _ _).mono ?_); rintro e w1 ⟨rfl, rfl⟩)
      go_ret
      exact ⟨by rw [hC.out] <;> rfl, rfl⟩
    · have hC := Lib.hid (show cmpB a b = 1 by simp [cmpB, h1, h2])
      have he : (!a == b) = true := by
        have : ¬ a = b := by rintro rfl; rw [lessB_irrefl] at h2; cases h2
        simp [this]
      go_enter Tryz.func131, Tryz.ntmps131
      go_wp2_with (go_at_call 195; go_must (refine (nan_any _ _).mono ?_); rintro e w1 ⟨rfl, rfl⟩)
      go_ret
      exact ⟨by rw [hC.out] <;> rfl, rfl⟩
  · have hC := Lib.hid (show cmpB a b = -1 by simp [cmpB, h1])
    go_enter Tryz.func131, Tryz.ntmps131
    go_wp2_with (go_at_call 195; go_must (refine (nan_any _ _).mono ?_); rintro e w1 ⟨rfl, rfl⟩)
    go_ret
    exact ⟨by rw [hC.out] <;> rfl, rfl⟩

theorem find1_any (x : Item) (k : Bytes) (w : World) :
    Calls Tryz.prog 130 #[.agg #[strV x.key, strV x.val, .int .i64 x.over, .int .i64 x.size], strV k] w fun e w' => e = .returned (.int .i64 (cmpB x.key k)) ∧ Below w.heap.size w w' := by
  have bx0 : BoxI (w.alloc (.cells #[strV x.key, strV x.val, .int .i64 x.over, .int .i64 x.size] 107)) w.heap.size x := Blk.new _ _ _
  obtain ⟨p0, p2, p1, p3⟩ := BoxI.c bx0
  have hb := (Below.refl w.heap.size w).alloc (Nat.le_refl _) (.cells #[strV x.key, strV x.val, .int .i64 x.over, .int .i64 x.size] 107)
  go_enter Tryz.func130, Tryz.ntmps130
  go_wp2_with (go_at_call 131; go_must (refine (cmp_any _ _ _).mono ?_); rintro e w1 ⟨rfl, rfl⟩)
  go_ret
  exact ⟨rfl, hb⟩

theorem cmpB_neg {a b : Bytes} : cmpB a b < 0 ↔ lessB a b = true := by
  unfold cmpB
  split
  · simp_all
  · split <;> simp_all

theorem cmpB_zero {a b : Bytes} : cmpB a b = 0 ↔ a = b := by
  constructor
  · intro h
    unfold cmpB at h
    rcases lessB_total a b with h1 | h1 | h1
    · rw [if_pos h1] at h; cases h
    · exact h1
    · split at h
      · cases h
      · simp [h1] at h
  · rintro rfl
    simp [cmpB, lessB_irrefl]

/-- What is known at the head of a round: all below lo is ahead, all from hi on is not. -/
def Mid (k : Bytes) (l : List Item) (lo hi : Nat) : Prop := lo ≤ ahead k l ∧ ahead k l ≤ hi

set_option maxHeartbeats 4000000 in
set_option maxRecDepth 100000 in
theorem search_any (A : Option Addr) (n c : Nat) (l : List Item) (k : Bytes) (w : World) (hv : Sl w 4 (.slice A n c) n (itemsCs l)) (hn : n ≤ 100000) (hr : riseI l = true) :
    Calls Tryz.prog 129 #[.slice A n c, strV k, .func (.func 130) #[] #[]] w fun e w' =>
      e = .returned (.tuple #[.int .i64 (ahead k l : Nat), .bool (isAt k l)]) ∧ Below w.heap.size w w' := by
  have hl1 : l.length = n := by obtain ⟨_, _, e, _, h1, _⟩ := hv; rw [itemsCs_len] at h1; omega
  have hA := ahead_le k l
  go_enter Tryz.func129, Tryz.ntmps129
  go_wp2
  go_loopg [9, 10] n (fun kx s9 s10 wr => ∃ lo hi : Nat, s9 = .int .i64 lo ∧ s10 = .int .i64 hi ∧ lo ≤ hi ∧ hi ≤ n ∧ hi - lo ≤ kx ∧ Hid (Mid k l lo hi) ∧ Below w.heap.size w wr)
  case atStart => exact ⟨0, n, rfl, rfl, Nat.zero_le _, Nat.le_refl _, by omega, ⟨Nat.zero_le _, by omega⟩, Below.refl _ _⟩
  case round =>
    obtain ⟨lo, hi, rfl, rfl, hlh, hin, hg, hM, hb⟩ := hrel
    have hz := hb.size
    by_cases hlt : lo < hi
    · obtain ⟨A', c', e0, h0, h1, h2⟩ := hv
      cases e0
      obtain ⟨blk, off, rfl, hbl, hcell⟩ := h2 (by omega)
      have hk' : (lo + hi) / 2 < l.length := by omega
      obtain ⟨i0, i1, i2, i3⟩ := item_4 (w := wr) fun j u hu => (hb.cell (p := ⟨blk, off + (lo + hi) / 2 * 4 + j, none⟩) hbl).trans (item_cells (n := n) hcell hk' j u hu)
      have hx : l[(lo + hi) / 2]? = some l[(lo + hi) / 2] := List.getElem?_eq_getElem hk'
      have hC := fun W => find1_any l[(lo + hi) / 2] k W
      generalize l[(lo + hi) / 2] = x at *
      clear hcell h2 h1
      by_cases hlx : cmpB x.key k < 0
      · have hM2 : Hid (Mid k l ((lo + hi) / 2 + 1) hi) := by
          refine ⟨?_, hM.2⟩
          refine Nat.lt_of_not_le fun h => ?_
          have := ahead_ge hr h hx
          rw [cmpB_neg.1 hlx] at this
          cases this
        go_wp2_with (fail)
        go_must (refine (hC _).mono ?_)
        rintro e w1 ⟨rfl, hb1⟩
        go_wp2_with (fail)
        go_roundg (hi - ((lo + hi) / 2 + 1))
        case measure => omega
        case rel => exact ⟨(lo + hi) / 2 + 1, hi, by rw [show ((lo : Int) + (hi : Int)) / 2 + 1 = (((lo + hi) / 2 + 1 : Nat) : Int) by omega], rfl, by omega, hin, Nat.le_refl _, hM2, hb.trans (hb1.mono hb.size)⟩
      · have hM2 : Hid (Mid k l lo ((lo + hi) / 2)) := by
          refine ⟨hM.1, Nat.le_of_not_lt fun h => ?_⟩
          obtain ⟨y, h1, h2⟩ := ahead_lt h
          rw [hx] at h1
          cases h1
          exact hlx (cmpB_neg.2 h2)
        go_wp2_with (fail)
        go_must (refine (hC _).mono ?_)
        rintro e w1 ⟨rfl, hb1⟩
        go_wp2_with (fail)
        go_roundg ((lo + hi) / 2 - lo)
        case measure => omega
        case rel => exact ⟨lo, (lo + hi) / 2, rfl, by rw [show ((lo : Int) + (hi : Int)) / 2 = (((lo + hi) / 2 : Nat) : Int) by omega], by omega, by omega, Nat.le_refl _, hM2, hb.trans (hb1.mono hb.size)⟩
    · obtain rfl : hi = lo := by omega
      obtain ⟨m1, m2⟩ := hM.out
      obtain rfl : hi = ahead k l := by omega
      by_cases hlt2 : ahead k l < n
      · obtain ⟨A', c', e0, h0, h1, h2⟩ := hv
        cases e0
        obtain ⟨blk, off, rfl, hbl, hcell⟩ := h2 (by omega)
        have hk' : ahead k l < l.length := by omega
        obtain ⟨i0, i1, i2, i3⟩ := item_4 (w := wr) fun j u hu => (hb.cell (p := ⟨blk, off + ahead k l * 4 + j, none⟩) hbl).trans (item_cells (n := n) hcell hk' j u hu)
        have hx : l[ahead k l]? = some l[ahead k l] := List.getElem?_eq_getElem hk'
        have hC := fun W => find1_any l[ahead k l] k W
        have hI : isAt k l = true ↔ l[ahead k l].key = k := by
          rw [isAt_iff, hx]
          simp
        generalize l[ahead k l] = x at *
        have hI2 : Hid (isAt k l = (cmpB x.key k == 0)) := by
          show _ = _
          rw [Bool.eq_iff_iff, hI, beq_iff_eq, cmpB_zero]
        clear hcell h2 h1 hI hM m1 m2 hA
        generalize hp0 : ahead k l = p at *
        have hp := Lib.hid hp0
        clear hp0
        go_wp2_with (fail)
        go_must (refine (hC _).mono ?_)
        rintro e w1 ⟨rfl, hb1⟩
        go_wp2_with (fail)
        go_ret2
        exact ⟨by rw [hI2.out, hp.out] <;> rfl, hb.trans (hb1.mono hb.size)⟩
      · have hI2 : Hid (isAt k l = false) := by
          show _ = _
          cases h : isAt k l
          · rfl
          · obtain ⟨x, h1, _⟩ := isAt_iff.1 h
            have := (List.getElem?_eq_some_iff.1 h1).1
            omega
        clear hM m1 m2 hA
        generalize hp0 : ahead k l = p at *
        have hp := Lib.hid hp0
        clear hp0
        go_wp2
        go_ret2
        exact ⟨by rw [hI2.out, hp.out] <;> rfl, hb⟩

theorem findI_any (A : Option Addr) (n c : Nat) (l : List Item) (k : Bytes) (w : World) (hv : Sl w 4 (.slice A n c) n (itemsCs l)) (hn : n ≤ 100000) (hr : riseI l = true) :
    Calls Tryz.prog 47 #[.slice A n c, strV k] w fun e w' =>
      e = .returned (.tuple #[.int .i64 (ahead k l : Nat), .bool (isAt k l)]) ∧ Below w.heap.size w w' := by
  have hC := Lib.hid (search_any A n c l k w hv hn hr)
  go_enter Tryz.func47, Tryz.ntmps47
  go_wp2_with (fail)
  go_must (refine hC.out.mono ?_)
  rintro e w1 ⟨rfl, hb1⟩
  go_wp2_with (fail)
  go_ret2
  exact ⟨rfl, hb1⟩
end Go.Ev

set_option linter.unusedVariables false
set_option linter.unusedSimpArgs false
namespace Go.Ev
open Go.Proofs Go.RowKit

theorem itemsCs_one : ∀ (l : List Item), ∀ u ∈ itemsCs l, u.oneCell' = true
  | [], u, h => by simp [itemsCs] at h
  | x :: l, u, h => by
    simp only [itemsCs, List.mem_append] at h
    rcases h with h | h
    · simp only [itemCs, List.mem_cons, List.not_mem_nil, or_false] at h
      rcases h with rfl | rfl | rfl | rfl <;> rfl
    · exact itemsCs_one l u h

set_option maxHeartbeats 2000000 in
theorem cloneI_any (A : Addr) (n c : Nat) (l : List Item) (w : World) (hv : Sl w 4 (.slice (some A) n c) n (itemsCs l)) (hn : n ≤ 100000) :
    Calls Tryz.prog 161 #[.slice (some A) n c] w fun e w' =>
      ∃ v', e = .returned v' ∧ w'.ownsRow w.heap.size 107 4 v' n (itemsCs l) ∧ Below w.heap.size w w' := by
  obtain ⟨i0, hi, hz0, hz1, hz2⟩ := info_parts (show (Tryz.prog.info? 107).map (fun i => (i.zero, i.size, i.bytes)) = some (some (.agg #[.string ⟨#[]⟩, .string ⟨#[]⟩, .int .i64 0, .int .i64 0]), 4, 48) by kernel_rfl)
  have q22 : ∀ (w : World) (a : Option Addr) (n c n' c' : Nat), (binOp .eql 97 (.slice a n c) (.slice none n' c')).run Tryz.prog w = .ok (.bool a.isNone) w := fun w a n c n' c' => Lib.run_eql_slice_nil w _ 107 a n c n' c' Tryz.underlying97
  go_enter Tryz.func161, Tryz.ntmps161
  go_wp2_with (at_builtin; go_must (refine wpList_append_own _ rfl _ _ 97 rfl w.heap.size 107 i0 _ 4 48 Tryz.underlying97 hi hz0 hz1 hz2 rfl (by decide) _ _ _ rfl (World.ownsRow_made w #[] 0 (Nat.le_refl _) (Nat.zero_le _) rfl) A n c (itemsCs l) rfl ?c0 ?c1 ?c2 ?c3 ?c4 ?c5 ?_))
  case c0 =>
    obtain ⟨_, _, e0, h0, h1, h2⟩ := hv
    simpa using h1
  case c1 =>
    obtain ⟨_, _, e0, h0, h1, h2⟩ := hv
    intro j u hu
    have hj := (List.getElem?_eq_some_iff.1 hu).1
    obtain ⟨b, o, eA, h4, h5⟩ := h2 (by omega)
    simp only [Value.slice.injEq] at e0
    rw [← e0.1] at eA
    cases eA
    rw [Addr.add_lit]
    exact Lib.cell?_alloc_some _ (h5 j u hu)
  case c2 => exact itemsCs_one l
  case c3 => unfold maxLen; omega
  case c4 => omega
  case c5 => simp
  intro v' w1 hown hgrow hnil
  go_wp2
  go_ret
  exact ⟨v', rfl, by simpa using hown, ((Below.refl _ w).alloc (Nat.le_refl _) _).grown hgrow (by simp) (by intro k hk; simp [Value.ownBlock] at hk; omega)⟩
end Go.Ev

set_option linter.unusedVariables false
set_option linter.unusedSimpArgs false
namespace Go.Ev
open Go.Proofs Go.RowKit

/-- Items that can be laid: short texts, numbers of 64 bits, not too much of all. -/
structure ItemsOk (l : List Item) : Prop where
  keys : KeysOk l
  nums : ∀ x ∈ l, I64 x.over ∧ I64 x.size
  len : (layI l).length ≤ 100000
  few : l.length ≤ 100000

theorem Sl.len4 {w : World} {A : Option Addr} {n c : Nat} {l : List Item} (h : Sl w 4 (.slice A n c) n (itemsCs l)) : l.length = n := by
  obtain ⟨_, _, e, _, h1, _⟩ := h
  rw [itemsCs_len] at h1
  omega

def PutPost (l : List Item) (w : World) (e : Ending) (w' : World) : Prop := e = .returned (.tuple #[strV (putI l).1, .int .i64 (putI l).2]) ∧ Below w.heap.size w w'

set_option maxHeartbeats 1000000 in
theorem putI_any (A : Option Addr) (n c : Nat) (l : List Item) (w : World) (hv : Sl w 4 (.slice A n c) n (itemsCs l)) (ho : ItemsOk l) :
    Calls Tryz.prog 158 #[.slice A n c] w (PutPost l w) := by
  have hn : n ≤ 100000 := by have := hv.len4; have := ho.few; omega
  have hR := fun W (h : Sl W 4 (.slice A n c) n (itemsCs l)) => rise_any A n c l W h hn ho.keys
  have hLn := ho.len
  cases hr : riseI l
  · have hp := Lib.hid (show putI l = ([], 1) by unfold putI; rw [if_pos hr])
    simp only [hr] at hR
    have HR := Lib.hid hR
    clear hR hr hLn
    go_enter Tryz.func158, Tryz.ntmps158
    go_wp2_with (go_at_call 205; go_must (refine (HR.out _ hv).mono ?_); rintro e w1 ⟨rfl, hb1⟩)
    go_ret2
    exact ⟨by rw [hp.out] <;> rfl, hb1⟩
  · simp only [hr] at hR
    have HR := Lib.hid hR
    have hL := Lib.hid (fun W (h : Sl W 4 (.slice A n c) n (itemsCs l)) => lay_any A n c l W h ho.len hn ho.nums)
    by_cases h240 : 240 < (layI l).length
    · have hp := Lib.hid (show putI l = ([], 2) by unfold putI; rw [if_neg (by simp [hr]), if_pos h240])
      have h240' : (240 : Int) < ((layI l).length : Int) := by omega
      clear hR hr h240
      go_enter Tryz.func158, Tryz.ntmps158
      go_wp2_with (first
        | (go_at_call 205; go_must (refine (HR.out _ hv).mono ?_); rintro e w1 ⟨rfl, hb1⟩)
        | (go_at_call 206; go_must (refine (hL.out _ (hv.below hb1)).mono ?_); rintro e w2 ⟨rfl, hb2⟩))
      go_ret2
      exact ⟨by rw [hp.out] <;> rfl, hb1.trans (hb2.mono hb1.size)⟩
    · have hp := Lib.hid (show putI l = (layI l, 0) by unfold putI; rw [if_neg (by simp [hr]), if_neg h240])
      have h240' : ¬ (240 : Int) < ((layI l).length : Int) := by omega
      clear hR hr h240
      go_enter Tryz.func158, Tryz.ntmps158
      go_wp2_with (first
        | (go_at_call 205; go_must (refine (HR.out _ hv).mono ?_); rintro e w1 ⟨rfl, hb1⟩)
        | (go_at_call 206; go_must (refine (hL.out _ (hv.below hb1)).mono ?_); rintro e w2 ⟨rfl, hb2⟩))
      go_ret2
      exact ⟨by rw [hp.out] <;> rfl, hb1.trans (hb2.mono hb1.size)⟩

theorem sizeI_any (A : Option Addr) (n c : Nat) (l : List Item) (w : World) (hv : Sl w 4 (.slice A n c) n (itemsCs l)) (ho : ItemsOk l) :
    Calls Tryz.prog 207 #[.slice A n c] w fun e w' => e = .returned (.int .i64 (layI l).length) ∧ Below w.heap.size w w' := by
  have hn : n ≤ 100000 := by have := hv.len4; have := ho.few; omega
  have hL := Lib.hid (lay_any A n c l w hv ho.len hn ho.nums)
  have hLn := ho.len
  go_enter Tryz.func207, Tryz.ntmps207
  go_wp2_with (go_at_call 206; go_must (refine hL.out.mono ?_); rintro e w2 ⟨rfl, hb2⟩)
  go_ret
  exact ⟨rfl, hb2⟩
end Go.Ev

set_option linter.unusedVariables false
set_option linter.unusedSimpArgs false
namespace Go.Ev
open Go.Proofs Go.RowKit

/-- What stands at the head of a round. -/
def GetRel (b : Bytes) (w : World) (r : Nat) (g : Nat) (v : Value) (wr : World) : Prop := ∃ (R : Rd) (acc : List Item),
  Rd.items ⟨b, 0⟩ = (acc ++ R.items.1, R.items.2) ∧ RdAt wr r R ∧ wr.ownsRow w.heap.size 107 4 v acc.length (itemsCs acc) ∧ Below w.heap.size w wr ∧
  (if R.e = 0 then R.b.length + 1 else 0) ≤ g ∧ (∀ x ∈ acc, x.short) ∧ acc.length + (if R.e = 0 then R.b.length + 1 else 0) ≤ b.length + 1

def GetPost (b : Bytes) (w : World) (e : Ending) (w' : World) : Prop := ∃ v, e = .returned (.tuple #[v, .int .i64 (getI b).2]) ∧ w'.ownsRow w.heap.size 107 4 v (getI b).1.length (itemsCs (getI b).1) ∧ Below w.heap.size w w'

theorem itemsCs_snoc (x : Item) : ∀ l : List Item, itemsCs (l ++ [x]) = itemsCs l ++ itemCs x
  | [] => by simp [itemsCs]
  | y :: l => by simp only [List.cons_append, itemsCs, itemsCs_snoc x l, List.append_assoc]

theorem row_newI (w : World) (cs : List Value) (T : TypeId) (B : Nat) (hB : B = w.heap.size) : ∀ j u, cs[j]? = some u → (w.alloc (.cells cs.toArray T)).cell? ((⟨B, 0, none⟩ : Addr).add j) = some u := by
  intro j u h
  subst hB
  have e : (⟨w.heap.size, 0, none⟩ : Addr).add j = ⟨w.heap.size, j, none⟩ := by cases j <;> simp [Addr.add]
  rw [e, (Blk.new w T cs.toArray).cell j]
  simpa using h

theorem setCell_size (w : World) (p : Addr) (u : Value) : (w.setCell p u).heap.size = w.heap.size := by simp [World.setCell]

theorem itemsOk_short {l : List Item} (h : ∀ x ∈ l, x.short) (hl : l.length ≤ 400) : ItemsOk l := by
  have := layI_short h
  exact ⟨fun x hx => ⟨by have := (h x hx).1; omega, by have := (h x hx).2.1; omega⟩, fun x hx => (h x hx).2.2, by omega, by omega⟩

theorem getRel_step {b : Bytes} {w : World} {r : Nat} {R R3 : Rd} {acc : List Item} {x : Item} {v : Value} {w7 : World}
    (hI : Rd.items ⟨b, 0⟩ = (acc ++ R.items.1, R.items.2)) (hS : R.items = (R.item.1 :: R.item.2.items.1, R.item.2.items.2)) (hx : R.item = (x, R3))
    (hsh : ∀ y ∈ acc, y.short) (hs : R.item.1.short) (hle : R.item.2.b.length ≤ R.b.length) (hst : R.item.2.e = 0 → R.item.2.b.length < R.b.length)
    (hlen : acc.length + (R.b.length + 1) ≤ b.length + 1) (hR : RdAt w7 r R3)
    (hown : w7.ownsRow w.heap.size 107 4 v (acc ++ [x]).length (itemsCs (acc ++ [x]))) (hbw : Below w.heap.size w w7) :
    (if R3.e = 0 then R3.b.length + 1 else 0) < R.b.length + 1 ∧ GetRel b w r (if R3.e = 0 then R3.b.length + 1 else 0) v w7 := by
  rw [hx] at hS hs hle hst
  dsimp only at hS hs hle hst
  have hlt : (if R3.e = 0 then R3.b.length + 1 else 0) < R.b.length + 1 := by
    split
    · have := hst (by assumption); omega
    · omega
  refine ⟨hlt, R3, acc ++ [x], ?_, hR, hown, hbw, Nat.le_refl _, ?_, ?_⟩
  · rw [hI, hS]; simp
  · intro y hy
    rcases List.mem_append.1 hy with h | h
    · exact hsh y h
    · rw [List.mem_singleton.1 h]; exact hs
  · rw [List.length_append, List.length_singleton]; omega

set_option maxHeartbeats 2000000 in
set_option maxRecDepth 100000 in
theorem getI_any (b : Bytes) (w : World) (hb : b.length ≤ 300) :
    Calls Tryz.prog 240 #[.string ⟨b.toArray⟩] w (GetPost b w) := by
  obtain ⟨i0, hi, hz0, hz1, hz2⟩ := info_parts (show (Tryz.prog.info? 107).map (fun i => (i.zero, i.size, i.bytes)) = some (some (.agg #[.string ⟨#[]⟩, .string ⟨#[]⟩, .int .i64 0, .int .i64 0]), 4, 48) by kernel_rfl)
  go_enter Tryz.func240, Tryz.ntmps240
  go_wp2_with (go_at_call 276; go_must (refine (newReader_any b _ (by omega)).mono ?_); rintro e w1 ⟨r, rfl, hr, hrw, hb1⟩)
  go_loopg [4] (b.length + 1) (fun g v wr => GetRel b w r g v wr)
  case atStart => exact ⟨⟨b, 0⟩, [], rfl, hr, World.ownsRow_nil _ _ _ _, hb1, by simp, by simp, by simp⟩
  case round =>
    obtain ⟨R, acc, hI, hR, hown, hbw, hg, hsh, hlen⟩ := hrel
    have HI := Lib.hid hI
    clear hI
    by_cases hc : R.e = 0 ∧ R.b ≠ []
    · have hE1 : (R.end != 0) = true := by simp [Rd.end, hc.1, hc.2]
      have hE2 : (R.e == 0) = true := by simp [hc.1]
      have HS := Lib.hid (Rd.items_step hc)
      have hsz : R.b.length + 1 ≤ gk ∧ acc.length + (R.b.length + 1) ≤ b.length + 1 := by rw [if_pos hc.1] at hg hlen; exact ⟨hg, hlen⟩
      have hshort := Rd.item_ok R
      have hle := Lib.hid (Rd.item_le R)
      have hst := Lib.hid (@Rd.item_short R)
      have hun : Hid (R.item = if (R.text 40).2.bool.1 = true then ({ key := (R.text 40).1, val := [], over := (R.text 40).2.bool.2.var.1, size := (R.text 40).2.bool.2.var.2.var.1 }, (R.text 40).2.bool.2.var.2.var.2) else ({ key := (R.text 40).1, val := ((R.text 40).2.bool.2.text 60).1, over := 0, size := 0 }, ((R.text 40).2.bool.2.text 60).2)) := by
        show _ = _
        unfold Rd.item
        rfl
      clear hc hg hlen
      have hT := fun W h => text_any r R 40 W h
      generalize R.text 40 = q1 at hun hT
      obtain ⟨key, R1⟩ := q1
      dsimp only at hun hT
      have hBo := fun W h => bool_any r R1 W h
      generalize R1.bool = q2 at hun hBo
      obtain ⟨o, R2⟩ := q2
      dsimp only at hun hBo
      have HT := Lib.hid hT
      have HB := Lib.hid hBo
      clear hT hBo
      cases o
      · have hT2 := fun W h => text_any r R2 60 W h
        generalize R2.text 60 = q3 at hun hT2
        obtain ⟨val, R3⟩ := q3
        dsimp only at hun hT2
        have HT2 := Lib.hid hT2
        clear hT2
        have hx := Lib.hid (hun.out.trans (if_neg (by simp)))
        clear hun
        go_wp2_with (first
          | (go_at_call 277; go_must (refine (end_any _ _ _ hR).mono ?_); rintro e w2 ⟨rfl, rfl⟩)
          | (go_at_call 278; go_must (refine (err_any _ _ _ hR).mono ?_); rintro e w2 ⟨rfl, rfl⟩))
        go_must (refine (HT.out _ hR).mono ?_)
        rintro e w3 ⟨rfl, hR1, K3⟩
        have hown3 := own_keeps hown K3 (own_ne hown hR.1 (by decide))
        have hbw3 : Below w.heap.size w w3 := hbw.trans (K3.below hbw.size (fun i hi h => by omega))
        have hown3a : (w3.alloc (.cells #[strV key, strV [], .int .i64 0, .int .i64 0] 107)).ownsRow w.heap.size 107 4 _ acc.length (itemsCs acc) := hown3.alloc _
        have hR1a : RdAt (w3.alloc (.cells #[strV key, strV [], .int .i64 0, .int .i64 0] 107)) r R1 := ⟨hR1.1.alloc _, hR1.2⟩
        have bx3 : BoxI (w3.alloc (.cells #[strV key, strV [], .int .i64 0, .int .i64 0] 107)) w3.heap.size { key := key, val := [], over := 0, size := 0 } := Blk.new _ _ _
        go_wp2_with (go_at_call 280; go_must (refine (HB.out _ hR1a).mono ?_); rintro e w4 ⟨rfl, hR2, K4⟩)
        go_must (refine (HT2.out _ hR2).mono ?_)
        rintro e w5 ⟨rfl, hR3, K5⟩
        have hrb : ¬ w3.heap.size = r := by have := hR1.1.lt; omega
        have hrb' : r ≠ w3.heap.size := fun e => hrb e.symm
        have bx5 := Blk.keeps (Blk.keeps bx3 K4 hrb) K5 hrb
        have hown4 := own_keeps hown3a K4 (own_ne hown3a hR1a.1 (by decide))
        have hown5 := own_keeps hown4 K5 (own_ne hown4 hR2.1 (by decide))
        have hbw5 : Below w.heap.size w w5 := (hbw3.alloc hbw3.size _).trans ((K4.below (by have := hbw3.size; simp; omega) (fun i hi h => by omega)).trans (K5.below (by have := hbw3.size; have := K4.size; simp at this; omega) (fun i hi h => by omega)))
        obtain ⟨c50, c52, c51, c53⟩ := BoxI.c bx5
        have f51 := Blk.frozen bx5 1
        dsimp only at c50 c51 c52 c53
        have hl3 := fun k hk => (hown3.lt k hk).2
        have hs6 := hbw5.size
        have K6 : Keeps (fun k => k = w3.heap.size) w5 (w5.setCell ⟨w3.heap.size, 1, none⟩ (.string ⟨val.toArray⟩)) := (Keeps.refl (fun k => k = w3.heap.size) _).setCell (fun _ => rfl) _
        have hown6 := own_keeps hown5 K6 (fun k hk e => by have := hl3 k hk; omega)
        have hR6 : RdAt (w5.setCell ⟨w3.heap.size, 1, none⟩ (.string ⟨val.toArray⟩)) r R3 := ⟨hR3.1.far hrb' _, hR3.2⟩
        have hbw6 : Below w.heap.size w (w5.setCell ⟨w3.heap.size, 1, none⟩ (.string ⟨val.toArray⟩)) := hbw5.trans (K6.below hbw5.size (fun i hi e => by have := hbw3.size; omega))
        go_wp2_with (at_builtin; go_must (refine wpList_append_own _ rfl _ _ 97 rfl w.heap.size 107 i0 _ 4 48 Tryz.underlying97 hi hz0 hz1 hz2 rfl (by decide) _ _ _ rfl (hown6.alloc _) ⟨w5.heap.size, 0, none⟩ 1 1 (itemCs { key := key, val := val, over := 0, size := 0 }) rfl rfl ?c1 ?c2 ?c3 ?c4 ?c5 ?_))
        case c1 => exact row_newI _ (itemCs { key := key, val := val, over := 0, size := 0 }) _ _ (setCell_size _ _ _ |>.symm)
        case c2 => simp [itemCs, Value.oneCell', strV]
        case c3 => unfold maxLen; omega
        case c4 => omega
        case c5 => have := hbw6.size; simp at this ⊢; omega
        intro v' w7 hown7 hgrow _
        have hown7' : w7.ownsRow w.heap.size 107 4 v' (acc ++ [({ key := key, val := val, over := 0, size := 0 } : Item)]).length (itemsCs (acc ++ [{ key := key, val := val, over := 0, size := 0 }])) := by
          rw [itemsCs_snoc, List.length_append]
          exact hown7
        have K7 : Keeps (fun k => _ = some k) _ w7 := (Keeps.refl (fun k => _ = some k) _).grown hgrow (fun k hk _ => hk)
        have hR7 : RdAt w7 r R3 := ⟨(hR6.1.alloc _).keeps K7 (fun hk => own_ne hown6 hR6.1 (by decide) r hk rfl), hR6.2⟩
        have hbw7 : Below w.heap.size w w7 := (hbw6.alloc hbw6.size _).trans (K7.below (by have := hbw6.size; simp at this ⊢; omega) (fun i hi hk => by have := (hown6.lt i hk).1; omega))
        have hend := getRel_step HI.out HS.out hx.out hsh hshort hle.out hst.out hsz.2 hR7 hown7' hbw7
        go_wp2_with (fail)
        go_roundg (if R3.e = 0 then R3.b.length + 1 else 0)
        case measure => exact Nat.lt_of_lt_of_le hend.1 hsz.1
        case rel => exact hend.2
      · have hV1 := fun W h => var_any r R2 W h
        generalize R2.var = q3 at hun hV1
        obtain ⟨over, R3⟩ := q3
        dsimp only at hun hV1
        have hV2 := fun W h => var_any r R3 W h
        generalize R3.var = q4 at hun hV2
        obtain ⟨size, R4⟩ := q4
        dsimp only at hun hV2
        have HV1 := Lib.hid hV1
        have HV2 := Lib.hid hV2
        clear hV1 hV2
        have hx := Lib.hid (hun.out.trans (if_pos rfl))
        clear hun
        go_wp2_with (first
          | (go_at_call 277; go_must (refine (end_any _ _ _ hR).mono ?_); rintro e w2 ⟨rfl, rfl⟩)
          | (go_at_call 278; go_must (refine (err_any _ _ _ hR).mono ?_); rintro e w2 ⟨rfl, rfl⟩))
        go_must (refine (HT.out _ hR).mono ?_)
        rintro e w3 ⟨rfl, hR1, K3⟩
        have hown3 := own_keeps hown K3 (own_ne hown hR.1 (by decide))
        have hbw3 : Below w.heap.size w w3 := hbw.trans (K3.below hbw.size (fun i hi h => by omega))
        have hown3a : (w3.alloc (.cells #[strV key, strV [], .int .i64 0, .int .i64 0] 107)).ownsRow w.heap.size 107 4 _ acc.length (itemsCs acc) := hown3.alloc _
        have hR1a : RdAt (w3.alloc (.cells #[strV key, strV [], .int .i64 0, .int .i64 0] 107)) r R1 := ⟨hR1.1.alloc _, hR1.2⟩
        have bx3 : BoxI (w3.alloc (.cells #[strV key, strV [], .int .i64 0, .int .i64 0] 107)) w3.heap.size { key := key, val := [], over := 0, size := 0 } := Blk.new _ _ _
        go_wp2_with (go_at_call 280; go_must (refine (HB.out _ hR1a).mono ?_); rintro e w4 ⟨rfl, hR2, K4⟩)
        go_must (refine (HV1.out _ hR2).mono ?_)
        rintro e w4b ⟨rfl, hR3, K4b⟩
        have hrb : ¬ w3.heap.size = r := by have := hR1.1.lt; omega
        have hrb' : r ≠ w3.heap.size := fun e => hrb e.symm
        have hown4 := own_keeps hown3a K4 (own_ne hown3a hR1a.1 (by decide))
        have hown4b := own_keeps hown4 K4b (own_ne hown4 hR2.1 (by decide))
        have hbw4b : Below w.heap.size w w4b := (hbw3.alloc hbw3.size _).trans ((K4.below (by have := hbw3.size; simp; omega) (fun i hi h => by omega)).trans (K4b.below (by have := hbw3.size; have := K4.size; simp at this; omega) (fun i hi h => by omega)))
        go_wp2_with (fail)
        go_must (refine (HV2.out _ hR3).mono ?_)
        rintro e w5 ⟨rfl, hR4, K5⟩
        have bx5 := Blk.keeps (Blk.keeps (Blk.keeps bx3 K4 hrb) K4b hrb) K5 hrb
        have hown5 := own_keeps hown4b K5 (own_ne hown4b hR3.1 (by decide))
        have hbw5 : Below w.heap.size w w5 := hbw4b.trans (K5.below hbw4b.size (fun i hi h => by omega))
        obtain ⟨c50, c52, c51, c53⟩ := BoxI.c bx5
        have f52 := Blk.frozen bx5 2
        have f53 := Blk.frozen bx5 3
        dsimp only at c50 c51 c52 c53
        have hl3 := fun k hk => (hown3.lt k hk).2
        have hs6 := hbw5.size
        have K6 : Keeps (fun k => k = w3.heap.size) w5 ((w5.setCell ⟨w3.heap.size, 2, none⟩ (.int .i64 over)).setCell ⟨w3.heap.size, 3, none⟩ (.int .i64 size)) := ((Keeps.refl (fun k => k = w3.heap.size) _).setCell (fun _ => rfl) _).setCell (fun _ => rfl) _
        have hown6 := own_keeps hown5 K6 (fun k hk e => by have := hl3 k hk; omega)
        have hR6 : RdAt ((w5.setCell ⟨w3.heap.size, 2, none⟩ (.int .i64 over)).setCell ⟨w3.heap.size, 3, none⟩ (.int .i64 size)) r R4 := ⟨(hR4.1.far hrb' _).far hrb' _, hR4.2⟩
        have hbw6 : Below w.heap.size w ((w5.setCell ⟨w3.heap.size, 2, none⟩ (.int .i64 over)).setCell ⟨w3.heap.size, 3, none⟩ (.int .i64 size)) := hbw5.trans (K6.below hbw5.size (fun i hi e => by have := hbw3.size; omega))
        go_wp2_with (at_builtin; go_must (refine wpList_append_own _ rfl _ _ 97 rfl w.heap.size 107 i0 _ 4 48 Tryz.underlying97 hi hz0 hz1 hz2 rfl (by decide) _ _ _ rfl (hown6.alloc _) ⟨w5.heap.size, 0, none⟩ 1 1 (itemCs { key := key, val := [], over := over, size := size }) rfl rfl ?c1 ?c2 ?c3 ?c4 ?c5 ?_))
        case c1 => exact row_newI _ (itemCs { key := key, val := [], over := over, size := size }) _ _ (by rw [setCell_size, setCell_size])
        case c2 => simp [itemCs, Value.oneCell', strV]
        case c3 => unfold maxLen; omega
        case c4 => omega
        case c5 => have := hbw6.size; simp at this ⊢; omega
        intro v' w7 hown7 hgrow _
        have hown7' : w7.ownsRow w.heap.size 107 4 v' (acc ++ [({ key := key, val := [], over := over, size := size } : Item)]).length (itemsCs (acc ++ [{ key := key, val := [], over := over, size := size }])) := by
          rw [itemsCs_snoc, List.length_append]
          exact hown7
        have K7 : Keeps (fun k => _ = some k) _ w7 := (Keeps.refl (fun k => _ = some k) _).grown hgrow (fun k hk _ => hk)
        have hR7 : RdAt w7 r R4 := ⟨(hR6.1.alloc _).keeps K7 (fun hk => own_ne hown6 hR6.1 (by decide) r hk rfl), hR6.2⟩
        have hbw7 : Below w.heap.size w w7 := (hbw6.alloc hbw6.size _).trans (K7.below (by have := hbw6.size; simp at this ⊢; omega) (fun i hi hk => by have := (hown6.lt i hk).1; omega))
        have hend := getRel_step HI.out HS.out hx.out hsh hshort hle.out hst.out hsz.2 hR7 hown7' hbw7
        go_wp2_with (fail)
        go_roundg (if R4.e = 0 then R4.b.length + 1 else 0)
        case measure => exact Nat.lt_of_lt_of_le hend.1 hsz.1
        case rel => exact hend.2
    · have hI' : Rd.items ⟨b, 0⟩ = (acc, R) := by rw [HI.out, Rd.items_end hc]; simp
      clear HI
      have HI := Lib.hid hI'
      clear hI'
      have hIt : ItemsOk acc := itemsOk_short hsh (by omega)
      have hSl := Sl.of_own hown
      obtain ⟨A, c, hv, _⟩ := hSl
      subst hv
      have hSl := Sl.of_own hown
      have hP := fun W h => putI_any A acc.length c acc W h hIt
      have hG := Lib.hid (show getI b = if R.e ≠ 0 ∨ (putI acc).2 ≠ 0 ∨ (putI acc).1 ≠ b then ([], 4) else (acc, 0) by unfold getI; rw [HI.out])
      unfold PutPost at hP
      generalize putI acc = q at hP hG
      obtain ⟨back, pe⟩ := q
      dsimp only at hP hG
      have HP := Lib.hid hP
      clear hP HI hIt hlen hg hsh
      by_cases he : R.e = 0
      · have hE1 : (R.end != 0) = false := by have : R.b = [] := Classical.byContradiction fun h => hc ⟨he, h⟩; simp [Rd.end, he, this]
        have hE3 : (R.e != 0) = false := by simp [he]
        clear he hc
        go_wp2_with (go_at_call 277; go_must (refine (end_any _ _ _ hR).mono ?_); rintro e w2 ⟨rfl, rfl⟩)
        go_must (refine (HP.out _ hSl).mono ?_)
        rintro e w3 ⟨rfl, hb3⟩
        have hR3 : RdAt w3 r R := ⟨hR.1.below' hb3, hR.2⟩
        have hown3 := own_keeps hown (Keeps.of_below (S := fun _ => False) hb3) (fun _ _ h => h)
        have hbw3 := hbw.trans ((Keeps.of_below (S := fun _ => False) hb3).below hbw.size (fun _ _ h => h))
        cases hp : (pe != 0)
        · have hp0 : pe = 0 := by simpa using hp
          by_cases hk : back = b
          · have hG' : getI b = (acc, 0) := hG.out.trans (if_neg (by simp [hp0, hk]; simpa using hE3))
            have hkb : (!back == b) = false := by simp [hk]
            clear hk hp0
            go_wp2_with (go_at_call 278; go_must (refine (err_any _ _ _ hR3).mono ?_); rintro e w4 ⟨rfl, rfl⟩)
            go_ret2
            exact ⟨_, by rw [hG'] <;> rfl, by rw [hG']; exact hown3, hbw3⟩
          · have hG' : getI b = ([], 4) := hG.out.trans (if_pos (.inr (.inr hk)))
            have hkb : (!back == b) = true := by simp [hk]
            clear hk hp0
            go_wp2_with (go_at_call 278; go_must (refine (err_any _ _ _ hR3).mono ?_); rintro e w4 ⟨rfl, rfl⟩)
            go_ret2
            exact ⟨_, by rw [hG'] <;> rfl, by rw [hG']; exact World.ownsRow_nil _ _ _ _, hbw3⟩
        · have hG' : getI b = ([], 4) := hG.out.trans (if_pos (.inr (.inl (by simpa using hp))))
          go_wp2_with (go_at_call 278; go_must (refine (err_any _ _ _ hR3).mono ?_); rintro e w4 ⟨rfl, rfl⟩)
          go_ret2
          exact ⟨_, by rw [hG'] <;> rfl, by rw [hG']; exact World.ownsRow_nil _ _ _ _, hbw3⟩
      · have hE1 : (R.end != 0) = true := by simp [Rd.end, he]
        have hE2 : (R.e == 0) = false := by simp [he]
        have hE3 : (R.e != 0) = true := by simp [he]
        have hG' : getI b = ([], 4) := hG.out.trans (if_pos (.inl he))
        clear he hc
        go_wp2_with (first
          | (go_at_call 277; go_must (refine (end_any _ _ _ hR).mono ?_); rintro e w2 ⟨rfl, rfl⟩)
          | (go_at_call 278; go_must (refine (err_any _ _ _ hR).mono ?_); rintro e w2 ⟨rfl, rfl⟩))
        go_must (refine (HP.out _ hSl).mono ?_)
        rintro e w3 ⟨rfl, hb3⟩
        have hR3 : RdAt w3 r R := ⟨hR.1.below' hb3, hR.2⟩
        have hbw3 := hbw.trans ((Keeps.of_below (S := fun _ => False) hb3).below hbw.size (fun _ _ h => h))
        go_wp2_with (go_at_call 278; go_must (refine (err_any _ _ _ hR3).mono ?_); rintro e w4 ⟨rfl, rfl⟩)
        go_ret2
        exact ⟨_, by rw [hG'] <;> rfl, by rw [hG']; exact World.ownsRow_nil _ _ _ _, hbw3⟩
end Go.Ev
