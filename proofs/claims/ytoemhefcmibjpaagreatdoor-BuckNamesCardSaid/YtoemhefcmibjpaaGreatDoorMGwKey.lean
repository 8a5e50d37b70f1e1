/-
  tree.isKey, tree.Value, and a work's small ones.
-/
import Derived.Test.YtoemhefcmibjpaaGreatDoorMEvInsert
import Derived.Test.YtoemhefcmibjpaaGreatDoorMGwUp0
set_option linter.unusedVariables false
set_option linter.unusedSimpArgs false
set_option linter.unusedVariables false
set_option linter.unusedSimpArgs false
namespace Go.Ev
open Go.Proofs Go.RowKit
theorem isKey_any (s : Bytes) (w : World) (hs : s.length ≤ 9223372036854775807) : Calls Tryz.prog 39 #[strV s] w fun e w' => e = .returned (.bool (decide (1 ≤ s.length) && decide (s.length ≤ 40))) ∧ w = w' := by
 cases s with
 | nil =>
  go_enter Tryz.func39, Tryz.ntmps39
  go_wp2
  go_ret
  exact ⟨rfl, rfl⟩
 | cons x s =>
  obtain ⟨n, hn⟩ : ∃ n, (x :: s).length = n := ⟨_, rfl⟩
  have h1 : 1 ≤ n := by rw [← hn]; simp
  have he : ((x :: s) == ([] : Bytes)) = false := rfl
  rw [hn]
  by_cases h40 : n ≤ 40
  ·have h40' : (n : Int) ≤ 40 := by omega
   go_enter Tryz.func39, Tryz.ntmps39
   go_wp2
   go_ret
   exact ⟨by simp [h1, h40], rfl⟩
  ·have h40' : ¬ (n : Int) ≤ 40 := by omega
   go_enter Tryz.func39, Tryz.ntmps39
   go_wp2
   go_ret
   exact ⟨by simp [h1, h40], rfl⟩
section
variable {p most cnt : Nat} {c : Pc} {x : Wc} {M : Store} {made dropped : List Int}
set_option maxHeartbeats 1000000 in
set_option maxRecDepth 100000 in
theorem value_ok (it : Item) (v : Bytes) (ids : List Int) (w : World) (h : PgOk w p c most M cnt) (hv : ValAt M it v ids) (hl : v.length ≤ 2000) (hil : ids.length ≤ 2000) :
  Calls Tryz.prog 57 #[ptrV p, .agg #[strV it.key, strV it.val, .int .i64 it.over, .int .i64 it.size]] w fun e w' => e = .returned (.tuple #[strV v, .int .i64 0]) ∧ Below w.heap.size w w' := by
 obtain ⟨ik, iv, io, isz⟩ := it
 have bx : Blk (w.alloc (.cells #[strV ik, strV iv, .int .i64 io, .int .i64 isz] 96)) w.heap.size 96 #[strV ik, strV iv, .int .i64 io, .int .i64 isz] := Blk.new _ _ _
 have x1 : (w.alloc (.cells #[strV ik, strV iv, .int .i64 io, .int .i64 isz] 96)).cell? ⟨w.heap.size, 1, none⟩ = some (strV iv) := bx.cell 1
 have x2 : (w.alloc (.cells #[strV ik, strV iv, .int .i64 io, .int .i64 isz] 96)).cell? ⟨w.heap.size, 2, none⟩ = some (.int .i64 io) := bx.cell 2
 have x3 : (w.alloc (.cells #[strV ik, strV iv, .int .i64 io, .int .i64 isz] 96)).cell? ⟨w.heap.size, 3, none⟩ = some (.int .i64 isz) := bx.cell 3
 have HB := Lib.hid ((Below.refl _ w).alloc (Nat.le_refl _) (.cells #[strV ik, strV iv, .int .i64 io, .int .i64 isz] 96))
 rcases hv with ⟨ho, hv1, _⟩ | ⟨ho, hc, hsz⟩
 ·dsimp only at ho hv1
  subst ho
  subst hv1
  clear h
  go_enter Tryz.func57, Tryz.ntmps57
  go_wp2
  go_ret2
  exact ⟨rfl, HB.out⟩
 ·have HG := Lib.hid (overGet_ok io v ids _ (h.alloc (.cells #[strV ik, strV iv, .int .i64 io, .int .i64 isz] 96)) hc hl hil)
  dsimp only at ho hc hsz
  have ho1 : (io == 0) = false := by simpa using ho
  rw [hsz] at HG
  clear h hc hsz
  go_enter Tryz.func57, Tryz.ntmps57
  go_wp2_with (fail)
  go_must (refine HG.out.mono ?_)
  rintro e w1 ⟨rfl, hb1⟩
  go_wp2_with (fail)
  go_ret2
  exact ⟨rfl, HB.out.trans (hb1.mono (by simp))⟩
theorem old_none (A : Option Addr) (n cc : Nat) (l : List Item) (k : Bytes) (w : World) (hv : Sl w 4 (.slice A n cc) n (itemsCs l)) (hn : n ≤ 100000) (hr : riseI l = true) (hk : isAt k l = false ∨ ∃ it, l[ahead k l]? = some it ∧ it.over = 0) :
  Calls Tryz.prog 41 #[ptrV x.b, .slice A n cc, strV k] w fun e w' => e = .returned (.int .i64 0) ∧ Below w.heap.size w w' := by
 have hl := hv.len4
 subst hl
 have HF := Lib.hid (findI_any A l.length cc l k w hv hn hr)
 cases hat : isAt k l with
 | false =>
  rw [hat] at HF
  clear hv hr hk
  go_enter Tryz.func41, Tryz.ntmps41
  go_wp2_with (fail)
  go_must (refine HF.out.mono ?_)
  rintro e w1 ⟨rfl, hb1⟩
  go_wp2_with (fail)
  go_ret
  exact ⟨rfl, hb1⟩
 | true =>
  obtain ⟨it, h1, h2⟩ := hk.resolve_left (by rw [hat]; simp)
  rw [hat] at HF
  have hlt := (List.getElem?_eq_some_iff.1 h1).1
  have hHV := Lib.hid (fun W (hb : Below w.heap.size w W) => hv.below hb)
  clear hv hr hk
  go_enter Tryz.func41, Tryz.ntmps41
  go_wp2_with (fail)
  go_must (refine HF.out.mono ?_)
  rintro e w1 ⟨rfl, hb1⟩
  obtain ⟨_, _, e0, _, _, hcl⟩ := hHV.out w1 hb1
  cases e0
  obtain ⟨blk, off, rfl, hbl, hcell⟩ := hcl (by omega)
  obtain ⟨_, _, q2, _⟩ := item_4 (w := w1) fun i u hu => item_cells (n := l.length) hcell hlt i u hu
  rw [List.getElem?_eq_getElem hlt, Option.some.injEq] at h1
  rw [h1, h2] at q2
  have hi0 : (0 : Int) ≤ (ahead k l : Int) := by omega
  have hil : (ahead k l : Int) < (l.length : Int) := by omega
  clear hcell hcl h1 h2
  go_wp2_with (fail)
  go_ret
  exact ⟨rfl, hb1⟩
set_option maxHeartbeats 1000000 in
theorem item_small (k v : Bytes) (w : World) (hv : v.length ≤ 60) :
  Calls Tryz.prog 42 #[ptrV x.b, strV k, strV v] w fun e w' => e = .returned (.tuple #[.agg #[strV k, strV v, .int .i64 0, .int .i64 0], .int .i64 0]) ∧ Below w.heap.size w w' := by
 have hbn : Blk (w.alloc (.cells #[strV k, strV v, .int .i64 0, .int .i64 0] 96)) w.heap.size 96 #[strV k, strV v, .int .i64 0, .int .i64 0] := Blk.new _ _ _
 have HB := Lib.hid ((Below.refl w.heap.size w).alloc (Nat.le_refl _) (.cells #[strV k, strV v, .int .i64 0, .int .i64 0] 96))
 have hv1 : (v.length : Int) ≤ 60 := by omega
 go_enter Tryz.func42, Tryz.ntmps42
 go_wp2_with (fail)
 refine bodyPost_ret (res_row [strV k, strV v, .int .i64 0, .int .i64 0] rfl rfl rfl (by kernel_rfl) hbn) rfl ?_
 exact ⟨rfl, HB.out⟩
theorem ints_one (l : List Int) : ∀ u ∈ intsV l, u.oneCell' = true := by
 intro u hu
 simp only [intsV, List.mem_map] at hu
 obtain ⟨i, _, rfl⟩ := hu
 rfl
def OldP (p : Nat) (x : Wc) (most : Nat) (M : Store) (cnt : Nat) (made dropped ids : List Int) (w : World) (e : Ending) (w' : World) : Prop :=
 e = .returned (.int .i64 0) ∧ ∃ x', WkOk w' p x' most M cnt made (dropped ++ ids) ∧ WkK p x x' w w'
set_option maxHeartbeats 1000000 in
set_option maxRecDepth 100000 in
/-- The chain of an item falls away. -/
theorem old_chain (A : Option Addr) (n cc : Nat) (l : List Item) (k : Bytes) (it : Item) (v : Bytes) (ids : List Int) (w : World) (h : WkOk w p x most M cnt made dropped) (hv : Sl w 4 (.slice A n cc) n (itemsCs l)) (hn : n ≤ 100000) (hr : riseI l = true) (hk : isAt k l = true) (hit : l[ahead k l]? = some it) (ho : it.over ≠ 0)
  (hval : ValAt M it v ids) (hvl : v.length ≤ 2000) (hil : ids.length ≤ 2000) (hdl : dropped.length ≤ 100000) :
  Calls Tryz.prog 41 #[ptrV x.b, .slice A n cc, strV k] w (OldP p x most M cnt made dropped ids w) := by
 obtain ⟨i0, hi, hz0, hz1, hz2⟩ := info_parts infoInt
 have hl := hv.len4
 subst hl
 have HF := Lib.hid (findI_any A l.length cc l k w hv hn hr)
 rw [hk] at HF
 obtain ⟨_, hch, hsz⟩ := hval.resolve_left (fun e => ho e.1)
 have hids : 0 < ids.length := by cases hch <;> simp
 have ho1 : (it.over == 0) = false := by simpa using ho
 have hlt := (List.getElem?_eq_some_iff.1 hit).1
 have hHV := Lib.hid (fun W (hb : Below w.heap.size w W) => hv.below hb)
 have HP := Lib.hid (fun W (hb : Below w.heap.size w W) => overPages_ok it.over v ids W (h.pg.below hb) hch hvl hil)
 rw [hsz] at HP
 have HH := Lib.hid h
 clear hv hr hk h hval hch
 go_enter Tryz.func41, Tryz.ntmps41
 go_wp2_with (fail)
 go_must (refine HF.out.mono ?_)
 rintro e w1 ⟨rfl, hb1⟩
 obtain ⟨_, _, e0, _, _, hcl⟩ := hHV.out w1 hb1
 cases e0
 obtain ⟨blk, off, rfl, hbl, hcell⟩ := hcl (by omega)
 obtain ⟨_, _, q2, q3⟩ := item_4 (w := w1) fun i u hu => item_cells (n := l.length) hcell hlt i u hu
 rw [List.getElem?_eq_getElem hlt, Option.some.injEq] at hit
 rw [hit] at q2 q3
 have hi0 : (0 : Int) ≤ (ahead k l : Int) := by omega
 have hil : (ahead k l : Int) < (l.length : Int) := by omega
 have g0 : w1.cell? ⟨x.b, 0, none⟩ = some (ptrV p) := (HH.out.below hb1).blk.cell 0
 have hP1 := HP.out w1.drew hb1.drew
 clear hcell hcl hit
 go_wp2_with (fail)
 have HH1 := Lib.hid (HH.out.below hb1)
 have HP1 := Lib.hid hP1
 clear hP1
 refine wp_region_any (by kernel_rfl) ?_
 change wpAny _ _ _ _ _ _ _ (World.drew _)
 try simp only [Act.put, lT, l0, lS]
 refine tA 0 ?_; try simp only [Act.put, lT, l0, lS]
 refine tA 1 ?_; try simp only [Act.put, lT, l0, lS]
 refine tA 2 ?_; try simp only [Act.put, lT, l0, lS]
 refine tA 4 ?_; try simp only [Act.put, lT, l0, lS]
 refine tA 5 ?_; try simp only [Act.put, lT, l0, lS]
 refine tA 6 ?_; try simp only [Act.put, lT, l0, lS]
 refine tA 7 ?_; try simp only [Act.put, lT, l0, lS]
 refine tA 9 ?_; try simp only [Act.put, lT, l0, lS]
 refine tA 10 ?_; try simp only [Act.put, lT, l0, lS]
 refine tA 11 ?_; try simp only [Act.put, lT, l0, lS]
 refine tA 12 ?_; try simp only [Act.put, lT, l0, lS]
 refine wpAny_ready (rs := [3, 8, 13]) (by kernel_rfl) (by simp) (AllReady.cons (o := { dst := _, op := _, type := _, pos := _, after := _, guard := _ }) rfl (fun K hK => ?_) (AllReady.cons (o := { dst := _, op := _, type := _, pos := _, after := _, guard := _ }) rfl (fun K hK => ?_) (AllReady.cons (o := { dst := _, op := _, type := _, pos := _, after := _, guard := _ }) rfl (fun K hK => ?_) AllReady.nil)))
 all_goals go_simp
 all_goals (refine hK _ _ ?_; clear hK K)
 ·skip
  refine wpAny_ready (rs := [8, 13]) (by kernel_rfl) (by simp) (AllReady.cons (o := { dst := _, op := _, type := _, pos := _, after := _, guard := _ }) rfl (fun K hK => ?_) (AllReady.cons (o := { dst := _, op := _, type := _, pos := _, after := _, guard := _ }) rfl (fun K hK => ?_) AllReady.nil))
  all_goals go_simp
  all_goals (refine hK _ _ ?_; clear hK K)
  ·skip
   refine rd 13 (by kernel_rfl) rfl (fun K hK => ?_); go_simp; refine hK _ _ ?_; clear hK K
   refine rd 14 (by kernel_rfl) rfl (fun K hK => ?_); go_simp
   (go_must (refine HP1.out.mono ?_); rintro e w2 ⟨r, rfl, own2, hb2⟩)
   go_simp
   refine hK _ _ ?_
   clear hK K
   refine rd 15 (by kernel_rfl) rfl (fun K hK => ?_); go_simp; refine hK _ _ ?_; clear hK K
   try simp only [Act.put, lT, l0, lS]
   refine tA 16 ?_; try simp only [Act.put, lT, l0, lS]
   refine tA 17 ?_; try simp only [Act.put, lT, l0, lS]
   refine rd 18 (by kernel_rfl) rfl (fun K hK => ?_); go_simp; refine hK _ _ ?_; clear hK K
   refine rd 19 (by kernel_rfl) rfl (fun K hK => ?_); go_simp; refine hK _ _ ?_; clear hK K
   refine wpAny_done (by kernel_rfl) ?_ _
   have hW2 := (HH1.out.drew).below hb2
   have g2 : w2.cell? ⟨x.b, 2, none⟩ = some x.dv := hW2.blk.cell 2
   rcases own2.2 with ⟨_, h0⟩ | ⟨g, cap, cur, rfl, hgb, hheap, hnc, hcm, hcs, hcx⟩
   ·omega
   have hnews : ∀ j u, (intsV ids)[j]? = some u → w2.cell? ((⟨g, 0, none⟩ : Addr).add j) = some u := by
    obtain ⟨_, _, e1, _, _, hcl⟩ := Sl.of_own own2
    cases e1
    obtain ⟨b', o', e2, _, hcl2⟩ := hcl hids
    cases e2
    intro j u hu
    rw [addr_add]
    exact hcl2 j u hu
   have hm1 : dropped.length + ids.length ≤ maxLen := by unfold maxLen; omega
   have HW2 := Lib.hid hW2
   have HN := Lib.hid hnews
   have HBB := Lib.hid (hb1.drew.trans (hb2.mono hb1.size))
   clear hcx hcs hheap own2 hnews hW2
   go_wp2_with (at_builtin; go_must (refine wpList_append_at rfl _ _ 63 rfl 0 3 i0 _ 1 8 Tryz.underlying63 hi hz0 hz1 hz2 rfl (by decide) _ dropped.length (intsV dropped) rfl HW2.out.dr ⟨g, 0, none⟩ ids.length cap (intsV ids) rfl (by simp [intsV]) HN.out (ints_one ids) hm1 (by omega) (by omega) ?_))
   intro v4 w4 own4 hg4 hw4
   obtain ⟨h3, kk3⟩ := HW2.out.grownD (l := ids) hg4 own4 hw4
   have bb := HW2.out.blkD hg4
   have z1 : w4.cell? ⟨x.b, 2, none⟩ = some x.dv := bb.cell 2
   have z2 : w4.frozen? ⟨x.b, 2, none⟩ = false := bb.frozen 2
   obtain ⟨A4, c4, rfl, _⟩ := Sl.of_own own4
   have HE : Hid (OldP p x most M cnt made dropped ids w (.returned (.int .i64 0)) (w4.setCell ⟨x.b, 2, none⟩ (.slice A4 (dropped.length + ids.length) c4))) := ⟨rfl, _, h3, (WkK.of_below HBB.out).trans kk3⟩
   clear own4 hg4 hw4 h3 kk3
   go_wp2_with (fail)
   go_ret
   exact HE.out
  ·skip
   refine rd 8 (by kernel_rfl) rfl (fun K hK => ?_); go_simp; refine hK _ _ ?_; clear hK K
   refine rd 14 (by kernel_rfl) rfl (fun K hK => ?_); go_simp
   (go_must (refine HP1.out.mono ?_); rintro e w2 ⟨r, rfl, own2, hb2⟩)
   go_simp
   refine hK _ _ ?_
   clear hK K
   refine rd 15 (by kernel_rfl) rfl (fun K hK => ?_); go_simp; refine hK _ _ ?_; clear hK K
   try simp only [Act.put, lT, l0, lS]
   refine tA 16 ?_; try simp only [Act.put, lT, l0, lS]
   refine tA 17 ?_; try simp only [Act.put, lT, l0, lS]
   refine rd 18 (by kernel_rfl) rfl (fun K hK => ?_); go_simp; refine hK _ _ ?_; clear hK K
   refine rd 19 (by kernel_rfl) rfl (fun K hK => ?_); go_simp; refine hK _ _ ?_; clear hK K
   refine wpAny_done (by kernel_rfl) ?_ _
   have hW2 := (HH1.out.drew).below hb2
   have g2 : w2.cell? ⟨x.b, 2, none⟩ = some x.dv := hW2.blk.cell 2
   rcases own2.2 with ⟨_, h0⟩ | ⟨g, cap, cur, rfl, hgb, hheap, hnc, hcm, hcs, hcx⟩
   ·omega
   have hnews : ∀ j u, (intsV ids)[j]? = some u → w2.cell? ((⟨g, 0, none⟩ : Addr).add j) = some u := by
    obtain ⟨_, _, e1, _, _, hcl⟩ := Sl.of_own own2
    cases e1
    obtain ⟨b', o', e2, _, hcl2⟩ := hcl hids
    cases e2
    intro j u hu
    rw [addr_add]
    exact hcl2 j u hu
   have hm1 : dropped.length + ids.length ≤ maxLen := by unfold maxLen; omega
   have HW2 := Lib.hid hW2
   have HN := Lib.hid hnews
   have HBB := Lib.hid (hb1.drew.trans (hb2.mono hb1.size))
   clear hcx hcs hheap own2 hnews hW2
   go_wp2_with (at_builtin; go_must (refine wpList_append_at rfl _ _ 63 rfl 0 3 i0 _ 1 8 Tryz.underlying63 hi hz0 hz1 hz2 rfl (by decide) _ dropped.length (intsV dropped) rfl HW2.out.dr ⟨g, 0, none⟩ ids.length cap (intsV ids) rfl (by simp [intsV]) HN.out (ints_one ids) hm1 (by omega) (by omega) ?_))
   intro v4 w4 own4 hg4 hw4
   obtain ⟨h3, kk3⟩ := HW2.out.grownD (l := ids) hg4 own4 hw4
   have bb := HW2.out.blkD hg4
   have z1 : w4.cell? ⟨x.b, 2, none⟩ = some x.dv := bb.cell 2
   have z2 : w4.frozen? ⟨x.b, 2, none⟩ = false := bb.frozen 2
   obtain ⟨A4, c4, rfl, _⟩ := Sl.of_own own4
   have HE : Hid (OldP p x most M cnt made dropped ids w (.returned (.int .i64 0)) (w4.setCell ⟨x.b, 2, none⟩ (.slice A4 (dropped.length + ids.length) c4))) := ⟨rfl, _, h3, (WkK.of_below HBB.out).trans kk3⟩
   clear own4 hg4 hw4 h3 kk3
   go_wp2_with (fail)
   go_ret
   exact HE.out
 ·skip
  refine wpAny_ready (rs := [3, 13]) (by kernel_rfl) (by simp) (AllReady.cons (o := { dst := _, op := _, type := _, pos := _, after := _, guard := _ }) rfl (fun K hK => ?_) (AllReady.cons (o := { dst := _, op := _, type := _, pos := _, after := _, guard := _ }) rfl (fun K hK => ?_) AllReady.nil))
  all_goals go_simp
  all_goals (refine hK _ _ ?_; clear hK K)
  ·skip
   refine rd 13 (by kernel_rfl) rfl (fun K hK => ?_); go_simp; refine hK _ _ ?_; clear hK K
   refine rd 14 (by kernel_rfl) rfl (fun K hK => ?_); go_simp
   (go_must (refine HP1.out.mono ?_); rintro e w2 ⟨r, rfl, own2, hb2⟩)
   go_simp
   refine hK _ _ ?_
   clear hK K
   refine rd 15 (by kernel_rfl) rfl (fun K hK => ?_); go_simp; refine hK _ _ ?_; clear hK K
   try simp only [Act.put, lT, l0, lS]
   refine tA 16 ?_; try simp only [Act.put, lT, l0, lS]
   refine tA 17 ?_; try simp only [Act.put, lT, l0, lS]
   refine rd 18 (by kernel_rfl) rfl (fun K hK => ?_); go_simp; refine hK _ _ ?_; clear hK K
   refine rd 19 (by kernel_rfl) rfl (fun K hK => ?_); go_simp; refine hK _ _ ?_; clear hK K
   refine wpAny_done (by kernel_rfl) ?_ _
   have hW2 := (HH1.out.drew).below hb2
   have g2 : w2.cell? ⟨x.b, 2, none⟩ = some x.dv := hW2.blk.cell 2
   rcases own2.2 with ⟨_, h0⟩ | ⟨g, cap, cur, rfl, hgb, hheap, hnc, hcm, hcs, hcx⟩
   ·omega
   have hnews : ∀ j u, (intsV ids)[j]? = some u → w2.cell? ((⟨g, 0, none⟩ : Addr).add j) = some u := by
    obtain ⟨_, _, e1, _, _, hcl⟩ := Sl.of_own own2
    cases e1
    obtain ⟨b', o', e2, _, hcl2⟩ := hcl hids
    cases e2
    intro j u hu
    rw [addr_add]
    exact hcl2 j u hu
   have hm1 : dropped.length + ids.length ≤ maxLen := by unfold maxLen; omega
   have HW2 := Lib.hid hW2
   have HN := Lib.hid hnews
   have HBB := Lib.hid (hb1.drew.trans (hb2.mono hb1.size))
   clear hcx hcs hheap own2 hnews hW2
   go_wp2_with (at_builtin; go_must (refine wpList_append_at rfl _ _ 63 rfl 0 3 i0 _ 1 8 Tryz.underlying63 hi hz0 hz1 hz2 rfl (by decide) _ dropped.length (intsV dropped) rfl HW2.out.dr ⟨g, 0, none⟩ ids.length cap (intsV ids) rfl (by simp [intsV]) HN.out (ints_one ids) hm1 (by omega) (by omega) ?_))
   intro v4 w4 own4 hg4 hw4
   obtain ⟨h3, kk3⟩ := HW2.out.grownD (l := ids) hg4 own4 hw4
   have bb := HW2.out.blkD hg4
   have z1 : w4.cell? ⟨x.b, 2, none⟩ = some x.dv := bb.cell 2
   have z2 : w4.frozen? ⟨x.b, 2, none⟩ = false := bb.frozen 2
   obtain ⟨A4, c4, rfl, _⟩ := Sl.of_own own4
   have HE : Hid (OldP p x most M cnt made dropped ids w (.returned (.int .i64 0)) (w4.setCell ⟨x.b, 2, none⟩ (.slice A4 (dropped.length + ids.length) c4))) := ⟨rfl, _, h3, (WkK.of_below HBB.out).trans kk3⟩
   clear own4 hg4 hw4 h3 kk3
   go_wp2_with (fail)
   go_ret
   exact HE.out
  ·skip
   refine rd 3 (by kernel_rfl) rfl (fun K hK => ?_); go_simp; refine hK _ _ ?_; clear hK K
   refine rd 14 (by kernel_rfl) rfl (fun K hK => ?_); go_simp
   (go_must (refine HP1.out.mono ?_); rintro e w2 ⟨r, rfl, own2, hb2⟩)
   go_simp
   refine hK _ _ ?_
   clear hK K
   refine rd 15 (by kernel_rfl) rfl (fun K hK => ?_); go_simp; refine hK _ _ ?_; clear hK K
   try simp only [Act.put, lT, l0, lS]
   refine tA 16 ?_; try simp only [Act.put, lT, l0, lS]
   refine tA 17 ?_; try simp only [Act.put, lT, l0, lS]
   refine rd 18 (by kernel_rfl) rfl (fun K hK => ?_); go_simp; refine hK _ _ ?_; clear hK K
   refine rd 19 (by kernel_rfl) rfl (fun K hK => ?_); go_simp; refine hK _ _ ?_; clear hK K
   refine wpAny_done (by kernel_rfl) ?_ _
   have hW2 := (HH1.out.drew).below hb2
   have g2 : w2.cell? ⟨x.b, 2, none⟩ = some x.dv := hW2.blk.cell 2
   rcases own2.2 with ⟨_, h0⟩ | ⟨g, cap, cur, rfl, hgb, hheap, hnc, hcm, hcs, hcx⟩
   ·omega
   have hnews : ∀ j u, (intsV ids)[j]? = some u → w2.cell? ((⟨g, 0, none⟩ : Addr).add j) = some u := by
    obtain ⟨_, _, e1, _, _, hcl⟩ := Sl.of_own own2
    cases e1
    obtain ⟨b', o', e2, _, hcl2⟩ := hcl hids
    cases e2
    intro j u hu
    rw [addr_add]
    exact hcl2 j u hu
   have hm1 : dropped.length + ids.length ≤ maxLen := by unfold maxLen; omega
   have HW2 := Lib.hid hW2
   have HN := Lib.hid hnews
   have HBB := Lib.hid (hb1.drew.trans (hb2.mono hb1.size))
   clear hcx hcs hheap own2 hnews hW2
   go_wp2_with (at_builtin; go_must (refine wpList_append_at rfl _ _ 63 rfl 0 3 i0 _ 1 8 Tryz.underlying63 hi hz0 hz1 hz2 rfl (by decide) _ dropped.length (intsV dropped) rfl HW2.out.dr ⟨g, 0, none⟩ ids.length cap (intsV ids) rfl (by simp [intsV]) HN.out (ints_one ids) hm1 (by omega) (by omega) ?_))
   intro v4 w4 own4 hg4 hw4
   obtain ⟨h3, kk3⟩ := HW2.out.grownD (l := ids) hg4 own4 hw4
   have bb := HW2.out.blkD hg4
   have z1 : w4.cell? ⟨x.b, 2, none⟩ = some x.dv := bb.cell 2
   have z2 : w4.frozen? ⟨x.b, 2, none⟩ = false := bb.frozen 2
   obtain ⟨A4, c4, rfl, _⟩ := Sl.of_own own4
   have HE : Hid (OldP p x most M cnt made dropped ids w (.returned (.int .i64 0)) (w4.setCell ⟨x.b, 2, none⟩ (.slice A4 (dropped.length + ids.length) c4))) := ⟨rfl, _, h3, (WkK.of_below HBB.out).trans kk3⟩
   clear own4 hg4 hw4 h3 kk3
   go_wp2_with (fail)
   go_ret
   exact HE.out
 ·skip
  refine wpAny_ready (rs := [3, 8]) (by kernel_rfl) (by simp) (AllReady.cons (o := { dst := _, op := _, type := _, pos := _, after := _, guard := _ }) rfl (fun K hK => ?_) (AllReady.cons (o := { dst := _, op := _, type := _, pos := _, after := _, guard := _ }) rfl (fun K hK => ?_) AllReady.nil))
  all_goals go_simp
  all_goals (refine hK _ _ ?_; clear hK K)
  ·skip
   refine rd 8 (by kernel_rfl) rfl (fun K hK => ?_); go_simp; refine hK _ _ ?_; clear hK K
   refine rd 14 (by kernel_rfl) rfl (fun K hK => ?_); go_simp
   (go_must (refine HP1.out.mono ?_); rintro e w2 ⟨r, rfl, own2, hb2⟩)
   go_simp
   refine hK _ _ ?_
   clear hK K
   refine rd 15 (by kernel_rfl) rfl (fun K hK => ?_); go_simp; refine hK _ _ ?_; clear hK K
   try simp only [Act.put, lT, l0, lS]
   refine tA 16 ?_; try simp only [Act.put, lT, l0, lS]
   refine tA 17 ?_; try simp only [Act.put, lT, l0, lS]
   refine rd 18 (by kernel_rfl) rfl (fun K hK => ?_); go_simp; refine hK _ _ ?_; clear hK K
   refine rd 19 (by kernel_rfl) rfl (fun K hK => ?_); go_simp; refine hK _ _ ?_; clear hK K
   refine wpAny_done (by kernel_rfl) ?_ _
   have hW2 := (HH1.out.drew).below hb2
   have g2 : w2.cell? ⟨x.b, 2, none⟩ = some x.dv := hW2.blk.cell 2
   rcases own2.2 with ⟨_, h0⟩ | ⟨g, cap, cur, rfl, hgb, hheap, hnc, hcm, hcs, hcx⟩
   ·omega
   have hnews : ∀ j u, (intsV ids)[j]? = some u → w2.cell? ((⟨g, 0, none⟩ : Addr).add j) = some u := by
    obtain ⟨_, _, e1, _, _, hcl⟩ := Sl.of_own own2
    cases e1
    obtain ⟨b', o', e2, _, hcl2⟩ := hcl hids
    cases e2
    intro j u hu
    rw [addr_add]
    exact hcl2 j u hu
   have hm1 : dropped.length + ids.length ≤ maxLen := by unfold maxLen; omega
   have HW2 := Lib.hid hW2
   have HN := Lib.hid hnews
   have HBB := Lib.hid (hb1.drew.trans (hb2.mono hb1.size))
   clear hcx hcs hheap own2 hnews hW2
   go_wp2_with (at_builtin; go_must (refine wpList_append_at rfl _ _ 63 rfl 0 3 i0 _ 1 8 Tryz.underlying63 hi hz0 hz1 hz2 rfl (by decide) _ dropped.length (intsV dropped) rfl HW2.out.dr ⟨g, 0, none⟩ ids.length cap (intsV ids) rfl (by simp [intsV]) HN.out (ints_one ids) hm1 (by omega) (by omega) ?_))
   intro v4 w4 own4 hg4 hw4
   obtain ⟨h3, kk3⟩ := HW2.out.grownD (l := ids) hg4 own4 hw4
   have bb := HW2.out.blkD hg4
   have z1 : w4.cell? ⟨x.b, 2, none⟩ = some x.dv := bb.cell 2
   have z2 : w4.frozen? ⟨x.b, 2, none⟩ = false := bb.frozen 2
   obtain ⟨A4, c4, rfl, _⟩ := Sl.of_own own4
   have HE : Hid (OldP p x most M cnt made dropped ids w (.returned (.int .i64 0)) (w4.setCell ⟨x.b, 2, none⟩ (.slice A4 (dropped.length + ids.length) c4))) := ⟨rfl, _, h3, (WkK.of_below HBB.out).trans kk3⟩
   clear own4 hg4 hw4 h3 kk3
   go_wp2_with (fail)
   go_ret
   exact HE.out
  ·skip
   refine rd 3 (by kernel_rfl) rfl (fun K hK => ?_); go_simp; refine hK _ _ ?_; clear hK K
   refine rd 14 (by kernel_rfl) rfl (fun K hK => ?_); go_simp
   (go_must (refine HP1.out.mono ?_); rintro e w2 ⟨r, rfl, own2, hb2⟩)
   go_simp
   refine hK _ _ ?_
   clear hK K
   refine rd 15 (by kernel_rfl) rfl (fun K hK => ?_); go_simp; refine hK _ _ ?_; clear hK K
   try simp only [Act.put, lT, l0, lS]
   refine tA 16 ?_; try simp only [Act.put, lT, l0, lS]
   refine tA 17 ?_; try simp only [Act.put, lT, l0, lS]
   refine rd 18 (by kernel_rfl) rfl (fun K hK => ?_); go_simp; refine hK _ _ ?_; clear hK K
   refine rd 19 (by kernel_rfl) rfl (fun K hK => ?_); go_simp; refine hK _ _ ?_; clear hK K
   refine wpAny_done (by kernel_rfl) ?_ _
   have hW2 := (HH1.out.drew).below hb2
   have g2 : w2.cell? ⟨x.b, 2, none⟩ = some x.dv := hW2.blk.cell 2
   rcases own2.2 with ⟨_, h0⟩ | ⟨g, cap, cur, rfl, hgb, hheap, hnc, hcm, hcs, hcx⟩
   ·omega
   have hnews : ∀ j u, (intsV ids)[j]? = some u → w2.cell? ((⟨g, 0, none⟩ : Addr).add j) = some u := by
    obtain ⟨_, _, e1, _, _, hcl⟩ := Sl.of_own own2
    cases e1
    obtain ⟨b', o', e2, _, hcl2⟩ := hcl hids
    cases e2
    intro j u hu
    rw [addr_add]
    exact hcl2 j u hu
   have hm1 : dropped.length + ids.length ≤ maxLen := by unfold maxLen; omega
   have HW2 := Lib.hid hW2
   have HN := Lib.hid hnews
   have HBB := Lib.hid (hb1.drew.trans (hb2.mono hb1.size))
   clear hcx hcs hheap own2 hnews hW2
   go_wp2_with (at_builtin; go_must (refine wpList_append_at rfl _ _ 63 rfl 0 3 i0 _ 1 8 Tryz.underlying63 hi hz0 hz1 hz2 rfl (by decide) _ dropped.length (intsV dropped) rfl HW2.out.dr ⟨g, 0, none⟩ ids.length cap (intsV ids) rfl (by simp [intsV]) HN.out (ints_one ids) hm1 (by omega) (by omega) ?_))
   intro v4 w4 own4 hg4 hw4
   obtain ⟨h3, kk3⟩ := HW2.out.grownD (l := ids) hg4 own4 hw4
   have bb := HW2.out.blkD hg4
   have z1 : w4.cell? ⟨x.b, 2, none⟩ = some x.dv := bb.cell 2
   have z2 : w4.frozen? ⟨x.b, 2, none⟩ = false := bb.frozen 2
   obtain ⟨A4, c4, rfl, _⟩ := Sl.of_own own4
   have HE : Hid (OldP p x most M cnt made dropped ids w (.returned (.int .i64 0)) (w4.setCell ⟨x.b, 2, none⟩ (.slice A4 (dropped.length + ids.length) c4))) := ⟨rfl, _, h3, (WkK.of_below HBB.out).trans kk3⟩
   clear own4 hg4 hw4 h3 kk3
   go_wp2_with (fail)
   go_ret
   exact HE.out
end
end Go.Ev
