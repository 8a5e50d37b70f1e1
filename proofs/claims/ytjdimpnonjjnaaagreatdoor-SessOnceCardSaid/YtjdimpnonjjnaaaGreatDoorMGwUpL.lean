/-
  Texts of this claim.
-/
import Derived.Test.YtjdimpnonjjnaaaGreatDoorMGwUp0
set_option linter.unusedVariables false
set_option linter.unusedSimpArgs false
set_option maxHeartbeats 1000000
set_option maxRecDepth 100000
namespace Go.Ev
open Go.Proofs Go.RowKit
theorem isKey_any (s : Bytes) (w : World) (hs : s.length ≤ 9223372036854775807) : Calls Tryz.prog 58 #[strV s] w fun e w' => e = .returned (.bool (decide (1 ≤ s.length) && decide (s.length ≤ 40))) ∧ w = w' := by
 cases s with
 | nil =>
  go_enter Tryz.func58, Tryz.ntmps58
  go_wp2
  go_ret
  exact ⟨rfl, rfl⟩
 | cons x s =>
  obtain ⟨n, hn⟩ := nmz ((x :: s).length)
  have h1 : 1 ≤ n := by rw [← hn]; simp
  have he : ((x :: s) == ([] : Bytes)) = false := rfl
  rw [hn]
  by_cases h40 : n ≤ 40
  ·have h40' : (n : Int) ≤ 40 := by omega
   go_enter Tryz.func58, Tryz.ntmps58
   go_wp2
   go_ret
   exact ⟨by simp [h1, h40], rfl⟩
  ·have h40' : ¬ (n : Int) ≤ 40 := by omega
   go_enter Tryz.func58, Tryz.ntmps58
   go_wp2
   go_ret
   exact ⟨by simp [h1, h40], rfl⟩
section
variable {p most cnt : Nat} {c : Pc} {x : Wc} {M : Store} {made dropped : List Int}
theorem value_ok (it : Item) (v : Bytes) (ids : List Int) (w : World) (h : PgOk w p c most M cnt) (hv : ValAt M it v ids) (hl : v.length ≤ 2000) (hil : ids.length ≤ 2000) :
  Calls Tryz.prog 97 #[ptrV p, .agg #[strV it.key, strV it.val, .int .i64 it.over, .int .i64 it.size]] w fun e w' => e = .returned (.tuple #[strV v, .int .i64 0]) ∧ Below w.heap.size w w' := by
 obtain ⟨ik, iv, io, isz⟩ := it
 have bx : Blk (w.alloc (.cells #[strV ik, strV iv, .int .i64 io, .int .i64 isz] 144)) w.heap.size 144 #[strV ik, strV iv, .int .i64 io, .int .i64 isz] := Blk.new _ _ _
 have x1 : (w.alloc (.cells #[strV ik, strV iv, .int .i64 io, .int .i64 isz] 144)).cell? ⟨w.heap.size, 1, none⟩ = some (strV iv) := bx.cell 1
 have x2 : (w.alloc (.cells #[strV ik, strV iv, .int .i64 io, .int .i64 isz] 144)).cell? ⟨w.heap.size, 2, none⟩ = some (.int .i64 io) := bx.cell 2
 have x3 : (w.alloc (.cells #[strV ik, strV iv, .int .i64 io, .int .i64 isz] 144)).cell? ⟨w.heap.size, 3, none⟩ = some (.int .i64 isz) := bx.cell 3
 have HB := Hdz ((Below.refl _ w).alloc (Nat.le_refl _) (.cells #[strV ik, strV iv, .int .i64 io, .int .i64 isz] 144))
 rcases hv with ⟨ho, hv1, _⟩ | ⟨ho, hc, hsz⟩
 ·dsimp only at ho hv1
  subst ho
  subst hv1
  clear h
  go_enter Tryz.func97, Tryz.ntmps97
  go_wp2
  go_ret2
  exact ⟨rfl, HB.out⟩
 ·have HG := Hdz (overGet_ok io v ids _ (h.alloc (.cells #[strV ik, strV iv, .int .i64 io, .int .i64 isz] 144)) hc hl hil)
  dsimp only at ho hc hsz
  have ho1 : (io == 0) = false := by simpa using ho
  rw [hsz] at HG
  clear h hc hsz
  go_enter Tryz.func97, Tryz.ntmps97
  go_wp2_with (fail)
  go_must (refine HG.out.mono ?_)
  rintro e w1 ⟨rfl, hb1⟩
  go_wp2_with (fail)
  go_ret2
  exact ⟨rfl, HB.out.trans (hb1.mono (by simp))⟩
theorem old_none (A : Option Addr) (n cc : Nat) (l : List Item) (k : Bytes) (w : World) (hv : Sl w 4 (.slice A n cc) n (itemsCs l)) (hn : n ≤ 100000) (hr : riseI l = true) (hk : isAt k l = false ∨ ∃ it, l[ahead k l]? = some it ∧ it.over = 0) :
  Calls Tryz.prog 61 #[ptrV x.b, .slice A n cc, strV k] w fun e w' => e = .returned (.int .i64 0) ∧ Below w.heap.size w w' := by
 have hl := hv.len4
 subst hl
 have HF := Hdz (findI_any A l.length cc l k w hv hn hr)
 cases hat : isAt k l with
 | false =>
  rw [hat] at HF
  clear hv hr hk
  go_enter Tryz.func61, Tryz.ntmps61
  go_wp2_with (fail)
  go_must (refine HF.out.mono ?_)
  rintro e w1 ⟨rfl, hb1⟩
  go_wp2_with (fail)
  go_ret
  exact ⟨rfl, hb1⟩
 | true =>
  obtain ⟨it, h1, h2⟩ := hk.resolve_left (by rw [hat]; simp)
  rw [hat] at HF
  have hlt := (List.getElem?_eq_some_iff.1 h1).1
  have hHV := Hdz (fun W (hb : Below w.heap.size w W) => hv.below hb)
  clear hv hr hk
  go_enter Tryz.func61, Tryz.ntmps61
  go_wp2_with (fail)
  go_must (refine HF.out.mono ?_)
  rintro e w1 ⟨rfl, hb1⟩
  obtain ⟨_, _, e0, _, _, hcl⟩ := hHV.out w1 hb1
  cases e0
  obtain ⟨blk, off, rfl, hbl, hcell⟩ := hcl (by omega)
  obtain ⟨_, _, q2, _⟩ := item_4 (w := w1) fun i u hu => item_cells (n := l.length) hcell hlt i u hu
  rw [List.getElem?_eq_getElem hlt, Option.some.injEq] at h1
  rw [h1, h2] at q2
  have hi0 : (0 : Int) ≤ (ahead k l : Int) := by omega
  have hil : (ahead k l : Int) < (l.length : Int) := by omega
  clear hcell hcl h1 h2
  go_wp2_with (fail)
  go_ret
  exact ⟨rfl, hb1⟩
theorem item_small (k v : Bytes) (w : World) (hv : v.length ≤ 60) :
  Calls Tryz.prog 72 #[ptrV x.b, strV k, strV v] w fun e w' => e = .returned (.tuple #[.agg #[strV k, strV v, .int .i64 0, .int .i64 0], .int .i64 0]) ∧ Below w.heap.size w w' := by
 have hbn : Blk (w.alloc (.cells #[strV k, strV v, .int .i64 0, .int .i64 0] 144)) w.heap.size 144 #[strV k, strV v, .int .i64 0, .int .i64 0] := Blk.new _ _ _
 have HB := Hdz ((Below.refl w.heap.size w).alloc (Nat.le_refl _) (.cells #[strV k, strV v, .int .i64 0, .int .i64 0] 144))
 have hv1 : (v.length : Int) ≤ 60 := by omega
 go_enter Tryz.func72, Tryz.ntmps72
 go_wp2_with (fail)
 refine bodyPost_ret (res_row [strV k, strV v, .int .i64 0, .int .i64 0] rfl rfl rfl (by kernel_rfl) hbn) rfl ?_
 exact ⟨rfl, HB.out⟩
theorem ints_one (l : List Int) : ∀ u ∈ intsV l, u.oneCell' = true := by
 intro u hu
 simp only [intsV, List.mem_map] at hu
 obtain ⟨i, _, rfl⟩ := hu
 rfl
def OldP (p : Nat) (x : Wc) (most : Nat) (M : Store) (cnt : Nat) (made dropped ids : List Int) (w : World) (e : Ending) (w' : World) : Prop :=
 e = .returned (.int .i64 0) ∧ ∃ x', WkOk w' p x' most M cnt made (dropped ++ ids) ∧ WkK p x x' w w'
/-- The chain of an item falls away. -/
theorem old_chain (A : Option Addr) (n cc : Nat) (l : List Item) (k : Bytes) (it : Item) (v : Bytes) (ids : List Int) (w : World) (h : WkOk w p x most M cnt made dropped) (hv : Sl w 4 (.slice A n cc) n (itemsCs l)) (hn : n ≤ 100000) (hr : riseI l = true) (hk : isAt k l = true) (hit : l[ahead k l]? = some it) (ho : it.over ≠ 0)
  (hval : ValAt M it v ids) (hvl : v.length ≤ 2000) (hil : ids.length ≤ 2000) (hdl : dropped.length ≤ 100000) :
  Calls Tryz.prog 61 #[ptrV x.b, .slice A n cc, strV k] w (OldP p x most M cnt made dropped ids w) := by
 obtain ⟨i0, hi, hz0, hz1, hz2⟩ := info_parts infoInt
 have hl := hv.len4
 subst hl
 have HF := Hdz (findI_any A l.length cc l k w hv hn hr)
 rw [hk] at HF
 obtain ⟨_, hch, hsz⟩ := hval.resolve_left (fun e => ho e.1)
 have hids : 0 < ids.length := by cases hch <;> simp
 have ho1 : (it.over == 0) = false := by simpa using ho
 have hlt := (List.getElem?_eq_some_iff.1 hit).1
 have hHV := Hdz (fun W (hb : Below w.heap.size w W) => hv.below hb)
 have HP := Hdz (fun W (hb : Below w.heap.size w W) => overPages_ok it.over v ids W (h.pg.below hb) hch hvl hil)
 rw [hsz] at HP
 have HH := Hdz h
 clear hv hr hk h hval hch
 go_enter Tryz.func61, Tryz.ntmps61
 go_wp2_with (fail)
 go_must (refine HF.out.mono ?_)
 rintro e w1 ⟨rfl, hb1⟩
 obtain ⟨_, _, e0, _, _, hcl⟩ := hHV.out w1 hb1
 cases e0
 obtain ⟨blk, off, rfl, hbl, hcell⟩ := hcl (by omega)
 obtain ⟨_, _, q2, q3⟩ := item_4 (w := w1) fun i u hu => item_cells (n := l.length) hcell hlt i u hu
 rw [List.getElem?_eq_getElem hlt, Option.some.injEq] at hit
 rw [hit] at q2 q3
 have hi0 : (0 : Int) ≤ (ahead k l : Int) := by omega
 have hil : (ahead k l : Int) < (l.length : Int) := by omega
 have g0 : w1.cell? ⟨x.b, 0, none⟩ = some (ptrV p) := (HH.out.below hb1).blk.cell 0
 have hP1 := HP.out w1.drew hb1.drew
 clear hcell hcl hit
 go_wp2_with (fail)
 have HH1 := Hdz (HH.out.below hb1)
 have HP1 := Hdz hP1
 clear hP1
 refine wRz ?_
 try simp only [lAz]
 refine tA 0 ?_; try simp only [lAz]
 refine tA 1 ?_; try simp only [lAz]
 refine tA 2 ?_; try simp only [lAz]
 refine tA 4 ?_; try simp only [lAz]
 refine tA 5 ?_; try simp only [lAz]
 refine tA 6 ?_; try simp only [lAz]
 refine tA 7 ?_; try simp only [lAz]
 refine tA 9 ?_; try simp only [lAz]
 refine tA 10 ?_; try simp only [lAz]
 refine tA 11 ?_; try simp only [lAz]
 refine tA 12 ?_; try simp only [lAz]
 refine wpAny_ready (rs := [3, 8, 13]) (by kernel_rfl) (by simp) (aCz (fun K hK => ?_) (aCz (fun K hK => ?_) (aCz (fun K hK => ?_) AllReady.nil)))
 all_goals go_simp
 all_goals (apply hK; clear hK K)
 ·skip
  refine wpAny_ready (rs := [8, 13]) (by kernel_rfl) (by simp) (aCz (fun K hK => ?_) (aCz (fun K hK => ?_) AllReady.nil))
  all_goals go_simp
  all_goals (apply hK; clear hK K)
  ·skip
   refine rZz 13 fun K hK => ?_; go_simp; apply hK; clear hK K
   refine rZz 14 fun K hK => ?_; go_simp
   (go_must (refine HP1.out.mono ?_); rintro e w2 ⟨r, rfl, own2, hb2⟩)
   go_simp
   apply hK
   clear hK K
   refine rZz 15 fun K hK => ?_; go_simp; apply hK; clear hK K
   try simp only [lAz]
   refine tA 16 ?_; try simp only [lAz]
   refine tA 17 ?_; try simp only [lAz]
   refine rZz 18 fun K hK => ?_; go_simp; apply hK; clear hK K
   refine rZz 19 fun K hK => ?_; go_simp; apply hK; clear hK K
   refine wDz ?_
   have hW2 := (HH1.out.drew).below hb2
   have g2 : w2.cell? ⟨x.b, 2, none⟩ = some x.dv := hW2.blk.cell 2
   rcases own2.2 with ⟨_, h0⟩ | ⟨g, cap, cur, rfl, hgb, hheap, hnc, hcm, hcs, hcx⟩
   ·omega
   have hnews : ∀ j u, (intsV ids)[j]? = some u → w2.cell? ((⟨g, 0, none⟩ : Addr).add j) = some u := by
    obtain ⟨_, _, e1, _, _, hcl⟩ := Sl.of_own own2
    cases e1
    obtain ⟨b', o', e2, _, hcl2⟩ := hcl hids
    cases e2
    intro j u hu
    rw [addr_add]
    exact hcl2 j u hu
   have hm1 : dropped.length + ids.length ≤ maxLen := by unfold maxLen; omega
   have HW2 := Hdz hW2
   have HN := Hdz hnews
   have HBB := Hdz (hb1.drew.trans (hb2.mono hb1.size))
   clear hcx hcs hheap own2 hnews hW2
   go_wp2_with (at_builtin; go_must (refine wpList_append_at rfl _ _ 29 rfl 0 3 i0 _ 1 8 Tryz.underlying29 hi hz0 hz1 hz2 rfl (by decide) _ dropped.length (intsV dropped) rfl HW2.out.dr ⟨g, 0, none⟩ ids.length cap (intsV ids) rfl (by simp [intsV]) HN.out (ints_one ids) hm1 (by omega) (by omega) ?_))
   intro v4 w4 own4 hg4 hw4
   obtain ⟨h3, kk3⟩ := HW2.out.grownD (l := ids) hg4 own4 hw4
   have bb := HW2.out.blkD hg4
   have z1 : w4.cell? ⟨x.b, 2, none⟩ = some x.dv := bb.cell 2
   have z2 : w4.frozen? ⟨x.b, 2, none⟩ = false := bb.frozen 2
   obtain ⟨A4, c4, rfl, _⟩ := Sl.of_own own4
   have HE : Hid (OldP p x most M cnt made dropped ids w (.returned (.int .i64 0)) (w4.setCell ⟨x.b, 2, none⟩ (.slice A4 (dropped.length + ids.length) c4))) := ⟨rfl, _, h3, (WkK.of_below HBB.out).trans kk3⟩
   clear own4 hg4 hw4 h3 kk3
   go_wp2_with (fail)
   go_ret
   exact HE.out
  ·skip
   refine rZz 8 fun K hK => ?_; go_simp; apply hK; clear hK K
   refine rZz 14 fun K hK => ?_; go_simp
   (go_must (refine HP1.out.mono ?_); rintro e w2 ⟨r, rfl, own2, hb2⟩)
   go_simp
   apply hK
   clear hK K
   refine rZz 15 fun K hK => ?_; go_simp; apply hK; clear hK K
   try simp only [lAz]
   refine tA 16 ?_; try simp only [lAz]
   refine tA 17 ?_; try simp only [lAz]
   refine rZz 18 fun K hK => ?_; go_simp; apply hK; clear hK K
   refine rZz 19 fun K hK => ?_; go_simp; apply hK; clear hK K
   refine wDz ?_
   have hW2 := (HH1.out.drew).below hb2
   have g2 : w2.cell? ⟨x.b, 2, none⟩ = some x.dv := hW2.blk.cell 2
   rcases own2.2 with ⟨_, h0⟩ | ⟨g, cap, cur, rfl, hgb, hheap, hnc, hcm, hcs, hcx⟩
   ·omega
   have hnews : ∀ j u, (intsV ids)[j]? = some u → w2.cell? ((⟨g, 0, none⟩ : Addr).add j) = some u := by
    obtain ⟨_, _, e1, _, _, hcl⟩ := Sl.of_own own2
    cases e1
    obtain ⟨b', o', e2, _, hcl2⟩ := hcl hids
    cases e2
    intro j u hu
    rw [addr_add]
    exact hcl2 j u hu
   have hm1 : dropped.length + ids.length ≤ maxLen := by unfold maxLen; omega
   have HW2 := Hdz hW2
   have HN := Hdz hnews
   have HBB := Hdz (hb1.drew.trans (hb2.mono hb1.size))
   clear hcx hcs hheap own2 hnews hW2
   go_wp2_with (at_builtin; go_must (refine wpList_append_at rfl _ _ 29 rfl 0 3 i0 _ 1 8 Tryz.underlying29 hi hz0 hz1 hz2 rfl (by decide) _ dropped.length (intsV dropped) rfl HW2.out.dr ⟨g, 0, none⟩ ids.length cap (intsV ids) rfl (by simp [intsV]) HN.out (ints_one ids) hm1 (by omega) (by omega) ?_))
   intro v4 w4 own4 hg4 hw4
   obtain ⟨h3, kk3⟩ := HW2.out.grownD (l := ids) hg4 own4 hw4
   have bb := HW2.out.blkD hg4
   have z1 : w4.cell? ⟨x.b, 2, none⟩ = some x.dv := bb.cell 2
   have z2 : w4.frozen? ⟨x.b, 2, none⟩ = false := bb.frozen 2
   obtain ⟨A4, c4, rfl, _⟩ := Sl.of_own own4
   have HE : Hid (OldP p x most M cnt made dropped ids w (.returned (.int .i64 0)) (w4.setCell ⟨x.b, 2, none⟩ (.slice A4 (dropped.length + ids.length) c4))) := ⟨rfl, _, h3, (WkK.of_below HBB.out).trans kk3⟩
   clear own4 hg4 hw4 h3 kk3
   go_wp2_with (fail)
   go_ret
   exact HE.out
 ·skip
  refine wpAny_ready (rs := [3, 13]) (by kernel_rfl) (by simp) (aCz (fun K hK => ?_) (aCz (fun K hK => ?_) AllReady.nil))
  all_goals go_simp
  all_goals (apply hK; clear hK K)
  ·skip
   refine rZz 13 fun K hK => ?_; go_simp; apply hK; clear hK K
   refine rZz 14 fun K hK => ?_; go_simp
   (go_must (refine HP1.out.mono ?_); rintro e w2 ⟨r, rfl, own2, hb2⟩)
   go_simp
   apply hK
   clear hK K
   refine rZz 15 fun K hK => ?_; go_simp; apply hK; clear hK K
   try simp only [lAz]
   refine tA 16 ?_; try simp only [lAz]
   refine tA 17 ?_; try simp only [lAz]
   refine rZz 18 fun K hK => ?_; go_simp; apply hK; clear hK K
   refine rZz 19 fun K hK => ?_; go_simp; apply hK; clear hK K
   refine wDz ?_
   have hW2 := (HH1.out.drew).below hb2
   have g2 : w2.cell? ⟨x.b, 2, none⟩ = some x.dv := hW2.blk.cell 2
   rcases own2.2 with ⟨_, h0⟩ | ⟨g, cap, cur, rfl, hgb, hheap, hnc, hcm, hcs, hcx⟩
   ·omega
   have hnews : ∀ j u, (intsV ids)[j]? = some u → w2.cell? ((⟨g, 0, none⟩ : Addr).add j) = some u := by
    obtain ⟨_, _, e1, _, _, hcl⟩ := Sl.of_own own2
    cases e1
    obtain ⟨b', o', e2, _, hcl2⟩ := hcl hids
    cases e2
    intro j u hu
    rw [addr_add]
    exact hcl2 j u hu
   have hm1 : dropped.length + ids.length ≤ maxLen := by unfold maxLen; omega
   have HW2 := Hdz hW2
   have HN := Hdz hnews
   have HBB := Hdz (hb1.drew.trans (hb2.mono hb1.size))
   clear hcx hcs hheap own2 hnews hW2
   go_wp2_with (at_builtin; go_must (refine wpList_append_at rfl _ _ 29 rfl 0 3 i0 _ 1 8 Tryz.underlying29 hi hz0 hz1 hz2 rfl (by decide) _ dropped.length (intsV dropped) rfl HW2.out.dr ⟨g, 0, none⟩ ids.length cap (intsV ids) rfl (by simp [intsV]) HN.out (ints_one ids) hm1 (by omega) (by omega) ?_))
   intro v4 w4 own4 hg4 hw4
   obtain ⟨h3, kk3⟩ := HW2.out.grownD (l := ids) hg4 own4 hw4
   have bb := HW2.out.blkD hg4
   have z1 : w4.cell? ⟨x.b, 2, none⟩ = some x.dv := bb.cell 2
   have z2 : w4.frozen? ⟨x.b, 2, none⟩ = false := bb.frozen 2
   obtain ⟨A4, c4, rfl, _⟩ := Sl.of_own own4
   have HE : Hid (OldP p x most M cnt made dropped ids w (.returned (.int .i64 0)) (w4.setCell ⟨x.b, 2, none⟩ (.slice A4 (dropped.length + ids.length) c4))) := ⟨rfl, _, h3, (WkK.of_below HBB.out).trans kk3⟩
   clear own4 hg4 hw4 h3 kk3
   go_wp2_with (fail)
   go_ret
   exact HE.out
  ·skip
   refine rZz 3 fun K hK => ?_; go_simp; apply hK; clear hK K
   refine rZz 14 fun K hK => ?_; go_simp
   (go_must (refine HP1.out.mono ?_); rintro e w2 ⟨r, rfl, own2, hb2⟩)
   go_simp
   apply hK
   clear hK K
   refine rZz 15 fun K hK => ?_; go_simp; apply hK; clear hK K
   try simp only [lAz]
   refine tA 16 ?_; try simp only [lAz]
   refine tA 17 ?_; try simp only [lAz]
   refine rZz 18 fun K hK => ?_; go_simp; apply hK; clear hK K
   refine rZz 19 fun K hK => ?_; go_simp; apply hK; clear hK K
   refine wDz ?_
   have hW2 := (HH1.out.drew).below hb2
   have g2 : w2.cell? ⟨x.b, 2, none⟩ = some x.dv := hW2.blk.cell 2
   rcases own2.2 with ⟨_, h0⟩ | ⟨g, cap, cur, rfl, hgb, hheap, hnc, hcm, hcs, hcx⟩
   ·omega
   have hnews : ∀ j u, (intsV ids)[j]? = some u → w2.cell? ((⟨g, 0, none⟩ : Addr).add j) = some u := by
    obtain ⟨_, _, e1, _, _, hcl⟩ := Sl.of_own own2
    cases e1
    obtain ⟨b', o', e2, _, hcl2⟩ := hcl hids
    cases e2
    intro j u hu
    rw [addr_add]
    exact hcl2 j u hu
   have hm1 : dropped.length + ids.length ≤ maxLen := by unfold maxLen; omega
   have HW2 := Hdz hW2
   have HN := Hdz hnews
   have HBB := Hdz (hb1.drew.trans (hb2.mono hb1.size))
   clear hcx hcs hheap own2 hnews hW2
   go_wp2_with (at_builtin; go_must (refine wpList_append_at rfl _ _ 29 rfl 0 3 i0 _ 1 8 Tryz.underlying29 hi hz0 hz1 hz2 rfl (by decide) _ dropped.length (intsV dropped) rfl HW2.out.dr ⟨g, 0, none⟩ ids.length cap (intsV ids) rfl (by simp [intsV]) HN.out (ints_one ids) hm1 (by omega) (by omega) ?_))
   intro v4 w4 own4 hg4 hw4
   obtain ⟨h3, kk3⟩ := HW2.out.grownD (l := ids) hg4 own4 hw4
   have bb := HW2.out.blkD hg4
   have z1 : w4.cell? ⟨x.b, 2, none⟩ = some x.dv := bb.cell 2
   have z2 : w4.frozen? ⟨x.b, 2, none⟩ = false := bb.frozen 2
   obtain ⟨A4, c4, rfl, _⟩ := Sl.of_own own4
   have HE : Hid (OldP p x most M cnt made dropped ids w (.returned (.int .i64 0)) (w4.setCell ⟨x.b, 2, none⟩ (.slice A4 (dropped.length + ids.length) c4))) := ⟨rfl, _, h3, (WkK.of_below HBB.out).trans kk3⟩
   clear own4 hg4 hw4 h3 kk3
   go_wp2_with (fail)
   go_ret
   exact HE.out
 ·skip
  refine wpAny_ready (rs := [3, 8]) (by kernel_rfl) (by simp) (aCz (fun K hK => ?_) (aCz (fun K hK => ?_) AllReady.nil))
  all_goals go_simp
  all_goals (apply hK; clear hK K)
  ·skip
   refine rZz 8 fun K hK => ?_; go_simp; apply hK; clear hK K
   refine rZz 14 fun K hK => ?_; go_simp
   (go_must (refine HP1.out.mono ?_); rintro e w2 ⟨r, rfl, own2, hb2⟩)
   go_simp
   apply hK
   clear hK K
   refine rZz 15 fun K hK => ?_; go_simp; apply hK; clear hK K
   try simp only [lAz]
   refine tA 16 ?_; try simp only [lAz]
   refine tA 17 ?_; try simp only [lAz]
   refine rZz 18 fun K hK => ?_; go_simp; apply hK; clear hK K
   refine rZz 19 fun K hK => ?_; go_simp; apply hK; clear hK K
   refine wDz ?_
   have hW2 := (HH1.out.drew).below hb2
   have g2 : w2.cell? ⟨x.b, 2, none⟩ = some x.dv := hW2.blk.cell 2
   rcases own2.2 with ⟨_, h0⟩ | ⟨g, cap, cur, rfl, hgb, hheap, hnc, hcm, hcs, hcx⟩
   ·omega
   have hnews : ∀ j u, (intsV ids)[j]? = some u → w2.cell? ((⟨g, 0, none⟩ : Addr).add j) = some u := by
    obtain ⟨_, _, e1, _, _, hcl⟩ := Sl.of_own own2
    cases e1
    obtain ⟨b', o', e2, _, hcl2⟩ := hcl hids
    cases e2
    intro j u hu
    rw [addr_add]
    exact hcl2 j u hu
   have hm1 : dropped.length + ids.length ≤ maxLen := by unfold maxLen; omega
   have HW2 := Hdz hW2
   have HN := Hdz hnews
   have HBB := Hdz (hb1.drew.trans (hb2.mono hb1.size))
   clear hcx hcs hheap own2 hnews hW2
   go_wp2_with (at_builtin; go_must (refine wpList_append_at rfl _ _ 29 rfl 0 3 i0 _ 1 8 Tryz.underlying29 hi hz0 hz1 hz2 rfl (by decide) _ dropped.length (intsV dropped) rfl HW2.out.dr ⟨g, 0, none⟩ ids.length cap (intsV ids) rfl (by simp [intsV]) HN.out (ints_one ids) hm1 (by omega) (by omega) ?_))
   intro v4 w4 own4 hg4 hw4
   obtain ⟨h3, kk3⟩ := HW2.out.grownD (l := ids) hg4 own4 hw4
   have bb := HW2.out.blkD hg4
   have z1 : w4.cell? ⟨x.b, 2, none⟩ = some x.dv := bb.cell 2
   have z2 : w4.frozen? ⟨x.b, 2, none⟩ = false := bb.frozen 2
   obtain ⟨A4, c4, rfl, _⟩ := Sl.of_own own4
   have HE : Hid (OldP p x most M cnt made dropped ids w (.returned (.int .i64 0)) (w4.setCell ⟨x.b, 2, none⟩ (.slice A4 (dropped.length + ids.length) c4))) := ⟨rfl, _, h3, (WkK.of_below HBB.out).trans kk3⟩
   clear own4 hg4 hw4 h3 kk3
   go_wp2_with (fail)
   go_ret
   exact HE.out
  ·skip
   refine rZz 3 fun K hK => ?_; go_simp; apply hK; clear hK K
   refine rZz 14 fun K hK => ?_; go_simp
   (go_must (refine HP1.out.mono ?_); rintro e w2 ⟨r, rfl, own2, hb2⟩)
   go_simp
   apply hK
   clear hK K
   refine rZz 15 fun K hK => ?_; go_simp; apply hK; clear hK K
   try simp only [lAz]
   refine tA 16 ?_; try simp only [lAz]
   refine tA 17 ?_; try simp only [lAz]
   refine rZz 18 fun K hK => ?_; go_simp; apply hK; clear hK K
   refine rZz 19 fun K hK => ?_; go_simp; apply hK; clear hK K
   refine wDz ?_
   have hW2 := (HH1.out.drew).below hb2
   have g2 : w2.cell? ⟨x.b, 2, none⟩ = some x.dv := hW2.blk.cell 2
   rcases own2.2 with ⟨_, h0⟩ | ⟨g, cap, cur, rfl, hgb, hheap, hnc, hcm, hcs, hcx⟩
   ·omega
   have hnews : ∀ j u, (intsV ids)[j]? = some u → w2.cell? ((⟨g, 0, none⟩ : Addr).add j) = some u := by
    obtain ⟨_, _, e1, _, _, hcl⟩ := Sl.of_own own2
    cases e1
    obtain ⟨b', o', e2, _, hcl2⟩ := hcl hids
    cases e2
    intro j u hu
    rw [addr_add]
    exact hcl2 j u hu
   have hm1 : dropped.length + ids.length ≤ maxLen := by unfold maxLen; omega
   have HW2 := Hdz hW2
   have HN := Hdz hnews
   have HBB := Hdz (hb1.drew.trans (hb2.mono hb1.size))
   clear hcx hcs hheap own2 hnews hW2
   go_wp2_with (at_builtin; go_must (refine wpList_append_at rfl _ _ 29 rfl 0 3 i0 _ 1 8 Tryz.underlying29 hi hz0 hz1 hz2 rfl (by decide) _ dropped.length (intsV dropped) rfl HW2.out.dr ⟨g, 0, none⟩ ids.length cap (intsV ids) rfl (by simp [intsV]) HN.out (ints_one ids) hm1 (by omega) (by omega) ?_))
   intro v4 w4 own4 hg4 hw4
   obtain ⟨h3, kk3⟩ := HW2.out.grownD (l := ids) hg4 own4 hw4
   have bb := HW2.out.blkD hg4
   have z1 : w4.cell? ⟨x.b, 2, none⟩ = some x.dv := bb.cell 2
   have z2 : w4.frozen? ⟨x.b, 2, none⟩ = false := bb.frozen 2
   obtain ⟨A4, c4, rfl, _⟩ := Sl.of_own own4
   have HE : Hid (OldP p x most M cnt made dropped ids w (.returned (.int .i64 0)) (w4.setCell ⟨x.b, 2, none⟩ (.slice A4 (dropped.length + ids.length) c4))) := ⟨rfl, _, h3, (WkK.of_below HBB.out).trans kk3⟩
   clear own4 hg4 hw4 h3 kk3
   go_wp2_with (fail)
   go_ret
   exact HE.out
end
open Go.Shelf
attribute [local go_sem] Oper.semAt_some
theorem WkOk.notStep {p most cnt : Nat} {x : Wc} {M : Store} {made dropped : List Int} {w : World} {b : Nat} {i0 : Int} {at' v : Value} (h : WkOk w p x most M cnt made dropped) (hb : Blk w b 184 #[.int .i64 i0, at', v]) : ¬ x.S p b := by
 have hT : ∀ {t : TypeId} {cs : Array Value}, Blk w b t cs → t = 184 := fun h1 => by
  unfold Blk at h1 hb
  rw [hb] at h1
  simp only [Option.some.injEq, Obj.cells.injEq] at h1
  exact h1.2.1.symm
 have hM : ∀ {l : List Ent} {c : Nat}, ¬ MapI w b l c := fun h1 => by
  unfold MapI at h1
  unfold Blk at hb
  rw [hb] at h1
  cases h1
 obtain ⟨n, mm, was, mc, wc, dc, spare, g, _⟩ := h.pg
 rintro ((hk | hk | hk | hk) | rfl | hk | hk)
 ·simp only [Pc.ids, List.mem_cons, List.not_mem_nil, or_false] at hk
  rcases hk with rfl | rfl | rfl | rfl | rfl | rfl | rfl
  ·exact absurd (hT g.blk) (by decide)
  ·exact absurd (hT g.dev.blk) (by decide)
  ·exact absurd (hT g.fre) (by decide)
  ·have h1 := g.spr.1
   have h2 : w.cell? ⟨x.c.sb, 0, none⟩ = some (.int .i64 i0) := hb.cell 0
   rw [h1] at h2
   obtain ⟨A, c, e, _⟩ := Sl.of_own g.spr.2.2.2.1
   rw [Option.some.inj h2] at e
   cases e
  ·exact hM g.mad
  ·exact hM g.dro
  ·exact hM g.wwas
 ·exact own_ne g.spr.2.2.2.1 hb (by decide) _ hk rfl
 ·obtain ⟨cs, hr⟩ := g.dev.srow; exact own_ne hr hb (by decide) _ hk rfl
 ·obtain ⟨cs, hr⟩ := g.dev.nrow; exact own_ne hr hb (by decide) _ hk rfl
 ·exact absurd (hT h.blk) (by decide)
 ·exact own_ne h.mo hb (by decide) _ hk rfl
 ·exact own_ne h.dr hb (by decide) _ hk rfl
theorem blk_turn {w w' : World} {b B : Nat} {t : TypeId} {cs : Array Value} {row : Option Nat} (h : Blk w b t cs) (hg : w.grownBy w' row) (hr : ∀ r, row = some r → B ≤ r ∧ ∃ o : Obj, w.heap[r]? = some o ∧ o.isCells = false) : Blk w' b t cs :=
 h.keeps (S := fun k => row = some k) ((Keeps.refl (fun k => row = some k) w).grown hg (fun _ e _ => e)) fun e => by
  obtain ⟨_, o, h1, h2⟩ := hr _ e
  unfold Blk at h
  rw [h] at h1
  cases h1
  cases h2
theorem own_turn {w w' : World} {B base z n : Nat} {e : TypeId} {v : Value} {xs : List Value} {row : Option Nat} (h : w.ownsRow base e z v n xs) (hg : w.grownBy w' row) (hr : ∀ r, row = some r → B ≤ r ∧ ∃ o : Obj, w.heap[r]? = some o ∧ o.isCells = false) : w'.ownsRow base e z v n xs :=
 own_keeps h ((Keeps.refl (fun k => row = some k) w).grown hg (fun _ e _ => e)) fun k hk e => by
  obtain ⟨_, o, h1, h2⟩ := hr _ e
  obtain ⟨o', h3, h4⟩ := own_cells h k hk
  rw [h1] at h3
  cases h3
  rw [h2] at h4
  cases h4
section
variable {p most cnt : Nat} {x : Wc} {M : Store} {made dropped : List Int}
theorem drop_turn {W : World} (h : WkOk W p x most M cnt made dropped) (id : Int) {v4 : Value} {w4 : World} (own4 : w4.ownsRow 0 3 1 v4 (dropped.length + 1) (intsV dropped ++ [.int .i64 id])) (hg4 : (W.alloc (.cells #[.int .i64 id] 3)).drew.grownBy w4 x.dv.ownBlock)
  (hw4 : ∀ k, v4.ownBlock = some k → x.dv.ownBlock = some k ∨ (W.alloc (.cells #[.int .i64 id] 3)).drew.heap.size ≤ k) :
  WkOk (w4.setCell ⟨x.b, 2, none⟩ v4) p { x with dv := v4 } most M cnt made (dropped ++ [id]) ∧ WkK p x { x with dv := v4 } W (w4.setCell ⟨x.b, 2, none⟩ v4) := by
 have h1 := (h.alloc (.cells #[.int .i64 id] 3)).drew
 obtain ⟨h3, kk3⟩ := h1.grownD (l := [id]) hg4 own4 hw4
 exact ⟨h3, (WkK.of_below (((Below.refl _ W).alloc (Nat.le_refl _) _).drew)).trans kk3⟩
theorem drop_cells {W : World} (h : WkOk W p x most M cnt made dropped) (id : Int) {w4 : World} (hg4 : (W.alloc (.cells #[.int .i64 id] 3)).drew.grownBy w4 x.dv.ownBlock) :
  w4.cell? ⟨x.b, 2, none⟩ = some x.dv ∧ w4.frozen? ⟨x.b, 2, none⟩ = false ∧ ∀ b v, b < W.heap.size → (∀ k, x.dv.ownBlock = some k → k ≠ b) → W.cell? ⟨b, 0, none⟩ = some v → w4.cell? ⟨b, 0, none⟩ = some v := by
 have h1 := (h.alloc (.cells #[.int .i64 id] 3)).drew
 have bb := h1.blkD hg4
 refine ⟨bb.cell 2, bb.frozen 2, fun b v hb hn hc => ?_⟩
 have K1 : Keeps (fun k => x.dv.ownBlock = some k) ((W.alloc (.cells #[.int .i64 id] 3)).drew) w4 := (Keeps.refl (fun k => x.dv.ownBlock = some k) _).grown hg4 (fun k hk _ => hk)
 have e : w4.heap[b]? = W.heap[b]? := (K1.block b (by simp; omega) (fun e => hn b e rfl)).trans (Below.heap_alloc _ _ _ hb)
 unfold World.cell? at hc ⊢
 rw [e]
 exact hc
theorem rev_split (st : List Step) (k : Nat) (h : k < st.length) : (st.map Step.ghost).reverse = (st.map Step.ghost).reverse.take k ++ (st[st.length - 1 - k]'(by omega)).ghost :: (st.map Step.ghost).reverse.drop (k + 1) ∧ (st.map Step.ghost).reverse.take (k + 1) = (st.map Step.ghost).reverse.take k ++ [(st[st.length - 1 - k]'(by omega)).ghost] := by
 have hl : k < (st.map Step.ghost).reverse.length := by simpa using h
 have e : (st.map Step.ghost).reverse[k] = (st[st.length - 1 - k]'(by omega)).ghost := by
  rw [List.getElem_reverse, List.getElem_map]
  simp
 refine ⟨?_, ?_⟩
 ·rw [← e, ← List.drop_eq_getElem_cons hl, List.take_append_drop]
 ·rw [List.take_succ_eq_append_getElem hl, e]
end
end Go.Ev
