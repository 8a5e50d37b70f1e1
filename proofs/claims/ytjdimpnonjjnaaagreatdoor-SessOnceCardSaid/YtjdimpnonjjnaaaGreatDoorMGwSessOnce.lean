/-
  Texts of this claim.
-/
import Derived.Test.YtjdimpnonjjnaaaGreatDoorMGwOnce0
import Derived.Deep.AppendLies
import Derived.Deep.DeepCutAuto
set_option linter.unusedVariables false
set_option linter.unusedSimpArgs false
namespace Go.Ev
open Go.Proofs Go.RowKit
abbrev opCells (o : OpS) : Array Value := #[.int .i64 o.kind, .int .i64 o.id, .int .i64 o.seq, .int .i64 o.err, strV o.val, .int .i64 o.num]
set_option maxHeartbeats 16000000 in
set_option maxRecDepth 100000 in
theorem once_walk (A : Option Addr) (m c : Nat) (ops : List OpS) (w : World) (h : OssAt w (.slice A m c) ops) :
  Calls Tryz.prog 3 #[.slice A m c] w (TrueB w) := by
 obtain ⟨hv, hml, hgood⟩ := h
 have hnn : m = ops.length := by obtain ⟨_, _, e, _⟩ := hv; cases e; rfl
 have HNN := Hdz hnn
 have HGo := Hdz hgood
 have HV : Hid (Sl w 6 (.slice A m c) m (ops.flatMap ossCs)) := by show Sl _ _ _ _ _; rw [hnn]; rw [hnn] at hv; exact hv
 have hn0 : m ≤ maxLen := by omega
 unfold maxLen at hn0
 clear hml hv hnn hgood
 by_cases hg3 : 150 < m
 ·have d3 : (150 : Int) < (m : Int) := by omega
  go_enter Tryz.func3, Tryz.ntmps3
  go_wp2_with (fail)
  go_must (refine (alive24 _).mono ?_)
  rintro e w2 ⟨rfl, hb2⟩
  have HB := Hdz hb2
  clear hb2
  go_wp2_with (fail)
  go_ret
  exact ⟨rfl, HB.out⟩
 have d3 : ¬ (150 : Int) < (m : Int) := by omega
 obtain ⟨i0, hi0, hz0, hz1, hz2⟩ := info_parts infoInt
 go_enter Tryz.func3, Tryz.ntmps3
 go_wp2_with (fail)
 go_must (refine (begin24 w).mono ?_)
 rintro e w1 ⟨bb, u, rfl, hS, hu, hb1⟩
 obtain ⟨Au, cu, rfl, -⟩ := Sl.of_own hu
 have HS1 := Hdz (OnceSt.start hS)
 have HB1 := Hdz hb1
 clear hS hu hb1 d3
 go_wp2_with (fail)
 go_loopg [6, 7, 8, 9] m (fun gk s6 s7 s8 s9 wr => ∃ (i q n : Nat) (l : List (Nat × Ses)) (sq : List Int) (A1 A2 : Option Addr) (c1 c2 : Nat), s6 = .int .i64 (n : Int) ∧ s7 = .slice A1 n c1 ∧ s8 = .slice A2 n c2 ∧ s9 = .int .i64 (i : Int) ∧ gk = m - i ∧ i ≤ m ∧ q ≤ 2 + 5 * i ∧ n ≤ i ∧ Hid (OnceSt w.heap.size bb q n l sq (fun _ => False) (.slice A1 n c1) (.slice A2 n c2) wr) ∧ Hid (Below w.heap.size w wr))
 case atStart => exact ⟨0, 2, 0, [], [], none, none, 0, 0, rfl, rfl, rfl, rfl, by omega, by omega, by omega, by omega, HS1.out, HB1.out⟩
 case round =>
  clear HS1 HB1
  obtain ⟨i, q, n, l, sq, A1, A2, c1, c2, rfl, rfl, rfl, rfl, hgk, him, hq, hni, hO, hbw⟩ := hrel
  obtain ⟨wo, rfl⟩ : ∃ wo, wo = wr := ⟨_, rfl⟩
  obtain ⟨go, rfl⟩ : ∃ g, g = gk := ⟨_, rfl⟩
  by_cases h1 : i < m
  ·have h1' : (i : Int) < (m : Int) := by omega
   have hi0' : (0 : Int) ≤ (i : Int) := by omega
   have hiN : i < ops.length := by have := HNN.out; omega
   obtain ⟨A', c', e0, _, _, hcl⟩ := HV.out
   cases e0
   obtain ⟨blk, off, rfl, hbl, hcell⟩ := hcl (by omega)
   obtain ⟨o, ho⟩ := nmz (ops[i])
   have hgo : GoodS o := by rw [← ho]; exact HGo.out _ (List.getElem_mem hiN)
   have hx : ∀ r u, (ossCs o)[r]? = some u → wo.cell? ⟨blk, off + (i * 6 + r), none⟩ = some u := fun r u hu => by
    rw [← ho] at hu
    have hr : r < 6 := by have := (List.getElem?_eq_some_iff.1 hu).1; simpa [ossCs_len] using this
    exact (hbw.out.cell (p := ⟨blk, off + (i * 6 + r), none⟩) hbl).trans (hcell _ _ (by rw [flat_at ossCs_len ops i r hiN hr]; exact hu))
   have x0 : wo.cell? ⟨blk, off + i * 6, none⟩ = some (.int .i64 o.kind) := hx 0 _ rfl
   have x1 : wo.cell? ⟨blk, off + i * 6 + 1, none⟩ = some (.int .i64 o.id) := hx 1 _ rfl
   have x2 : wo.cell? ⟨blk, off + i * 6 + 2, none⟩ = some (.int .i64 o.seq) := hx 2 _ rfl
   have x3 : wo.cell? ⟨blk, off + i * 6 + 3, none⟩ = some (.int .i64 o.err) := hx 3 _ rfl
   have x4 : wo.cell? ⟨blk, off + i * 6 + 4, none⟩ = some (strV o.val) := hx 4 _ rfl
   have x5 : wo.cell? ⟨blk, off + i * 6 + 5, none⟩ = some (.int .i64 o.num) := hx 5 _ rfl
   obtain ⟨vl, hvl⟩ : ∃ n, o.val.length = n := ⟨_, rfl⟩
   have hvm : vl ≤ 9223372036854775807 := by have := hgo.2.2.2.2; unfold maxLen at this; omega
   have HGoo := Hdz (Anz hgo hvl)
   obtain ⟨g, hg⟩ := nmz (wo.heap.size)
   have hO0 := hO.out.box hbw.out.size (.cells (opCells o) 34)
   have hB0 := hbw.out.alloc hbw.out.size (.cells (opCells o) 34)
   have b0 : Blk (wo.alloc (.cells (opCells o) 34)) wo.heap.size 34 (opCells o) := Blk.new _ _ _
   obtain ⟨wb, hwb⟩ := nmz (wo.alloc (.cells (opCells o) 34))
   rw [hg, hwb] at b0 hO0
   rw [hwb] at hB0
   have HO0 := Hdz hO0
   have HB0 := Hdz hB0
   have HX0 := Hdz b0
   have HGZ := Hdz (Anz hg hwb)
   clear hcl hcell hx ho hgo hO hbw b0 hO0 hB0 hg hwb
   by_cases hlong : 1000 < vl
   ·have d1 : (1000 : Int) < (vl : Int) := by omega
    go_wp2_with (fail)
    go_ret
    rw [HGZ.out.2]
    exact ⟨rfl, HB0.out⟩
   have d1 : ¬ (1000 : Int) < (vl : Int) := by omega
   go_upto_if 48 with fail
   rw [HGZ.out.1, HGZ.out.2]
   go_cut [6, 7, 8] from 41 to 71 (fun s6 s7 s8 wx => ∃ (q n : Nat) (l : List (Nat × Ses)) (sq : List Int) (A1 A2 : Option Addr) (c1 c2 : Nat), s6 = .int .i64 (n : Int) ∧ s7 = .slice A1 n c1 ∧ s8 = .slice A2 n c2 ∧ q ≤ 5 + 5 * i ∧ n ≤ i + 1 ∧ Hid (OnceSt w.heap.size bb q n l sq (fun k => k = g) (.slice A1 n c1) (.slice A2 n c2) wx) ∧ Hid (Below w.heap.size w wx) ∧ Hid (Blk wx g 34 (opCells o)))
   case first =>
    have y0 := HX0.out.cell 0
    have y1 := HX0.out.cell 1
    by_cases hk1 : o.kind = 1
    ·have hkb : (o.kind == 1) = true := beq_iff_eq.2 hk1
     obtain ⟨n1, hn1⟩ := nmz (n + 1)
     have hR := HO0.out.sn.register (by omega) o.id HGoo.out.1.1 (by omega)
     rw [hn1] at hR
     have HR := Hdz hR
     have hwn : IntKind.i64.wrap ((n : Int) + 1) = (n1 : Int) := by rw [IntWalk.i64_in _ (by omega)]; omega
     have HN1 := Hdz hn1
     have hn1i : n1 ≤ i + 1 := by omega
     have hq3 : q + 3 ≤ 5 + 5 * i := by omega
     clear hk1 hR hn1
     go_wp2_with (fail)
     go_must (refine HR.out.mono ?_)
     rintro e w3 ⟨rfl, hS3, hk3⟩
     have o1 := own_keeps HO0.out.ids hk3 fun k e hF => hF.2.1 e
     have o2 := own_keeps HO0.out.sqs hk3 fun k e hF => hF.2.2.1 e
     have HK3 := Hdz (Anz hS3 hk3)
     have HO1 := Hdz (Anz o1 o2)
     have HB3 := Hdz (HB0.out.trans (hk3.base HB0.out.size fun k e => e.1))
     have HX3 := Hdz (HX0.out.keeps hk3 fun e => e.2.2.2 rfl)
     clear hS3 hk3 o1 o2 y0 y1
     go_wp2_with (at_builtin; go_must (refine wpList_append_at rfl _ _ 29 rfl w.heap.size 3 i0 _ 1 8 Tryz.underlying29 hi0 hz0 hz1 hz2 rfl (by decide) _ n _ rfl (own_below HO1.out.1 ((Below.refl _ w3).alloc (Nat.le_refl _) (.cells #[.int .i64 (n1 : Int)] 3))) ⟨w3.heap.size, 0, none⟩ 1 1 [.int .i64 (n1 : Int)] rfl rfl (row_new1 _ _ _ _ (by simp)) (by simp [Value.oneCell']) (by unfold maxLen; omega) (by omega) (by have := HB3.out.size; simp; omega) ?_))
     intro v4 w4 own4 hg4 hat4
     have hb2 : Below w3.heap.size w3 (w3.alloc (.cells #[.int .i64 (n1 : Int)] 3)) := (Below.refl _ _).alloc (Nat.le_refl _) _
     have hst : intsV (upto n) ++ [.int .i64 (n1 : Int)] = intsV (upto (n + 1)) := by rw [upto_snoc, intsV_snoc, HN1.out]
     rw [hst] at own4
     have k4 : Keeps (fun k => (Value.slice A1 n c1).ownBlock = some k) (w3.alloc (.cells #[.int .i64 (n1 : Int)] 3)) w4 := (Keeps.refl _ _).grown hg4 fun k e _ => e
     have o2b : w4.ownsRow w.heap.size 3 1 (.slice A2 n c2) n (intsV sq) := own_keeps (own_below HO1.out.2 hb2) k4 fun k e1 e2 => HO0.out.ap1 k e2 e1
     have HX4 := Hdz ((Blk.below' HX3.out hb2).keeps k4 fun e => own_ne HO1.out.1 HX3.out (by decide) g e rfl)
     have HB4 := Hdz ((HB3.out.trans (hb2.mono HB3.out.size)).grown hg4 (Nat.le_trans HB3.out.size hb2.size) (fun j hj => (HO1.out.1.lt j hj).1))
     have hat4' : ∀ k, v4.ownBlock = some k → (Value.slice A1 n c1).ownBlock = some k ∨ (w3.alloc (.cells #[.int .i64 (n1 : Int)] 3)).heap.size ≤ k := fun k e => (hat4 k e).imp id fun h => by simpa using h
     have H4 := Hdz (Anz own4 (Anz hg4 (Anz hat4' (Anz o2b hb2))))
     obtain ⟨A4, c4, rfl, -⟩ := Sl.of_own own4
     clear own4 hg4 hat4 hat4' hst k4 o2b hb2
     go_wp2_with (at_builtin; go_must (refine wpList_append_at rfl _ _ 29 rfl w.heap.size 3 i0 _ 1 8 Tryz.underlying29 hi0 hz0 hz1 hz2 rfl (by decide) _ n _ rfl (own_below H4.out.2.2.2.1 ((Below.refl _ w4).alloc (Nat.le_refl _) (.cells #[.int .i64 0] 3))) ⟨w4.heap.size, 0, none⟩ 1 1 [.int .i64 0] rfl rfl (row_new1 _ _ _ _ (by simp)) (by simp [Value.oneCell']) (by unfold maxLen; omega) (by omega) (by have := HB4.out.size; simp; omega) ?_))
     intro v6 w6 own6 hg6 hat6
     have hb4 : Below w4.heap.size w4 (w4.alloc (.cells #[.int .i64 0] 3)) := (Below.refl _ _).alloc (Nat.le_refl _) _
     have hst : intsV sq ++ [.int .i64 0] = intsV (sq ++ [0]) := by rw [intsV_snoc]
     rw [hst] at own6
     have k6 : Keeps (fun k => (Value.slice A2 n c2).ownBlock = some k) (w4.alloc (.cells #[.int .i64 0] 3)) w6 := (Keeps.refl _ _).grown hg6 fun k e _ => e
     have hat6' : ∀ k, v6.ownBlock = some k → (Value.slice A2 n c2).ownBlock = some k ∨ (w4.alloc (.cells #[.int .i64 0] 3)).heap.size ≤ k := fun k e => (hat6 k e).imp id fun h => by simpa using h
     have HB6 := Hdz ((HB4.out.trans (hb4.mono HB4.out.size)).grown hg6 (Nat.le_trans HB4.out.size hb4.size) (fun j hj => (H4.out.2.2.2.1.lt j hj).1))
     have HX6 := Hdz ((Blk.below' HX4.out hb4).keeps k6 fun e => own_ne H4.out.2.2.2.1 HX4.out (by decide) g e rfl)
     have hS1 := HK3.out.1
     rw [← HN1.out] at hS1
     have hO6 := HO0.out.reg HK3.out.2 hS1 H4.out.2.2.2.2 H4.out.2.1 H4.out.2.2.1 H4.out.1 hb4 hg6 hat6' own6
     obtain ⟨A6, c6, rfl, -⟩ := Sl.of_own own6
     rw [HN1.out] at hO6
     have HO6 := Hdz hO6
     clear own6 hg6 hat6 hat6' hst k6 hb4 hS1 hO6
     go_wp2_with (fail)
     go_meet
     exact ⟨q + 3, n1, regS n o.id l, sq ++ [0], A4, A6, c4, c6, rfl, by rw [← HN1.out], by rw [← HN1.out], hq3, hn1i, HO6.out, HB6.out, HX6.out⟩
    ·have hkb : (o.kind == 1) = false := beq_eq_false_iff_ne.2 hk1
     clear hk1
     go_wp2_with (fail)
     go_meet
     exact ⟨q, n, l, sq, A1, A2, c1, c2, rfl, rfl, rfl, by omega, by omega, HO0.out, HB0.out, HX0.out⟩
   case rest =>
    clear HO0 HB0 HX0 hq hni
    obtain ⟨q, n, l, sq, A1, A2, c1, c2, rfl, rfl, rfl, hq, hni, hO, hbw, hX⟩ := hcut
    obtain ⟨wd, rfl⟩ : ∃ wd, wd = wc := ⟨_, rfl⟩
    have y0 := hX.out.cell 0
    go_upto_region 20 with fail
    go_cut [79] from 72 to 79 (fun s79 wx => s79 = .bool (decide (o.kind = 4) && decide (0 < n)) ∧ wx = wd)
    case first =>
     by_cases hk4 : o.kind = 4
     ·have hkb : (o.kind == 4) = true := beq_iff_eq.2 hk4
      by_cases hn0 : 0 < n
      ·have hn0' : (0 : Int) < (n : Int) := by omega
       have e1 : decide (o.kind = 4) = true := decide_eq_true hk4
       have e2 : decide (0 < n) = true := decide_eq_true hn0
       have HE := Hdz (Anz e1 e2)
       clear hk4 e1 e2
       go_wp2_with (fail)
       go_meet
       exact ⟨by rw [HE.out.1, HE.out.2]; rfl, rfl⟩
      ·have hn0' : ¬ (0 : Int) < (n : Int) := by omega
       have e2 : decide (0 < n) = false := decide_eq_false hn0
       have HE := Hdz e2
       clear hk4 e2
       go_wp2_with (fail)
       go_meet
       exact ⟨by rw [HE.out, Bool.and_false], rfl⟩
     ·have hkb : (o.kind == 4) = false := beq_eq_false_iff_ne.2 hk4
      have e1 : decide (o.kind = 4) = false := decide_eq_false hk4
      have HE := Hdz e1
      clear hk4 e1
      go_wp2_with (fail)
      go_meet
      exact ⟨by rw [HE.out, Bool.false_and], rfl⟩
    case rest =>
     obtain ⟨rfl, rfl⟩ := hcut
     obtain ⟨we, rfl⟩ : ∃ we, we = wc := ⟨_, rfl⟩
     obtain ⟨b79, hb79⟩ : ∃ b, (decide (o.kind = 4) && decide (0 < n)) = b := ⟨_, rfl⟩
     rw [hb79]
     clear y0
     go_upto_if 79 with fail
     go_cut [8] from 72 to 142 (fun s8 wx => ∃ (q : Nat) (l : List (Nat × Ses)) (sq : List Int), s8 = .slice A2 n c2 ∧ q ≤ 6 + 5 * i ∧ Hid (OnceSt w.heap.size bb q n l sq (fun k => k = g) (.slice A1 n c1) (.slice A2 n c2) wx) ∧ Hid (Below w.heap.size w wx))
     case first =>
      cases b79 with
      | false =>
       have HB79 := Hdz hb79
       clear hb79
       go_wp2_with (fail)
       go_meet
       exact ⟨q, l, sq, rfl, by omega, hO.out, hbw.out⟩
      | true =>
       have hn0 : 0 < n := by simp at hb79; exact hb79.2
       obtain ⟨k, hk⟩ : ∃ k, n = k + 1 := ⟨n - 1, by omega⟩
       obtain ⟨x, hx, hxs⟩ := hO.out.inv.last hn0
       obtain ⟨g1, p1, e1, _, hg1l⟩ := hO.out.ids.form hn0
       obtain ⟨g2, p2, e2, _, hg2l⟩ := hO.out.sqs.form hn0
       cases e1
       cases e2
       have hk1 : n - 1 = k := by omega
       rw [hk1] at hxs
       have hkn : (n : Int) - 1 = (k : Int) := by omega
       have hwk : IntKind.i64.wrap (k : Int) = (k : Int) := IntWalk.i64_in _ (by omega)
       have hk0 : (0 : Int) ≤ (k : Int) := by omega
       have hkn' : (k : Int) < (n : Int) := by omega
       have HK := Hdz hk
       have hat : (intsV (upto n))[k]? = some (.int .i64 (n : Int)) := by rw [upto_at (by omega), ← hk]
       have z1 : we.drew.cell? ⟨g1, k, none⟩ = some (.int .i64 (n : Int)) := (hO.out.ids.cellAt k (by omega)).trans hat
       have bx := hX.out.drew
       have q2 := bx.cell 2
       have q3 := bx.cell 3
       have q4 := bx.cell 4
       have q5 := bx.cell 5
       have hn8 : n ≤ 99999999 := hO.out.sn.ok.2.2
       have hlk : lookS l (n : Int) = some x := by rw [lookS_nat (by omega) hn8, hx]
       have hcase : (∃ code : Int, code ≠ 0 ∧ ∀ W1, Below we.heap.size we W1 → Calls Tryz.prog 8 #[ptrV bb, .int .i64 (n : Int), .int .i64 o.seq, repV ⟨0, 0, o.err, o.num, o.val⟩] W1 fun e w' => e = .returned (.int .i64 code) ∧ Below W1.heap.size W1 w') ∨ (x.seq < o.seq ∧ ¬ o.seq < 1) := by
        by_cases s1 : o.seq < x.seq
        ·exact .inl ⟨25, by omega, fun W1 hb => (hO.out.sn.below hb).saveStale1 (by omega) _ _ _ hlk s1⟩
        ·by_cases s2 : o.seq < 1
         ·exact .inl ⟨25, by omega, fun W1 hb => (hO.out.sn.below hb).saveStale2 (by omega) _ _ _ hlk s1 s2⟩
         ·by_cases s3 : o.seq = x.seq
          ·exact .inl ⟨8, by omega, fun W1 hb => (hO.out.sn.below hb).saveDup (by omega) _ _ _ hlk s3 s2⟩
          ·exact .inr ⟨by omega, s2⟩
       have HLk := Hdz (Anz hx (Anz hxs hlk))
       have HB79 := Hdz hb79
       clear hb79 hk hk1 hat bx hx hxs hlk
       rcases hcase with ⟨code, hc0, hS⟩ | ⟨s1, s2⟩
       ·have hcb : (code == 0) = false := beq_eq_false_iff_ne.2 hc0
        have HS := Hdz hS
        clear hS hc0
        go_wp2_with (fail)
        refine wRz ?_
        try simp only [lAz]
        refine tAx 0 ?_; try simp only [lAz]
        refine tAx 1 ?_; try simp only [lAz]
        refine tAx 2 ?_; try simp only [lAz]
        refine tAx 3 ?_; try simp only [lAz]
        refine tAx 5 ?_; try simp only [lAz]
        refine tAx 7 ?_; try simp only [lAz]
        refine rAx 4 (v := ?_) (hy := ?hy) ?_; case hy => (intro w hE; have q0 := hE.cell z1; go_simp; try with_reducible rfl)
        try simp only [lAz]
        refine rAx 6 (v := ?_) (hy := ?hy) ?_; case hy => (intro w hE; have q0 := hE.cell q2; go_simp; try with_reducible rfl)
        try simp only [lAz]
        refine rAx 8 (v := ?_) (hy := ?hy) ?_; case hy => (intro w hE; have q0 := hE.cell q3; have q1 := hE.cell q4; have q2 := hE.cell q5; go_simp; try with_reducible rfl)
        try simp only [lAz]
        refine rZx 9 fun K hK => ?_; go_simp
        (go_must (refine (HS.out _ (Below.refl _ _).drew).mono ?_); rintro e w4 ⟨rfl, hb4⟩)
        have HO4 := Hdz (hO.out.below ((Below.refl _ we).drew.trans hb4))
        have HB4 := Hdz (hbw.out.trans (((Below.refl _ we).drew.trans hb4).mono hbw.out.size))
        clear hb4
        go_simp
        apply hK
        clear hK K
        refine rZx 10 fun K hK => ?_; go_simp; apply hK; clear hK K
        refine wDx ?_
        go_wp2_with (fail)
        go_meet
        exact ⟨q, l, sq, rfl, by omega, HO4.out, HB4.out⟩
       ·have hvl1 : o.val.length ≤ 1000 := by have := HGoo.out.2; omega
        have hyg : SesGood ⟨0, 0, o.err, o.num, o.val⟩ := ⟨by simp [I64], by simp [I64], HGoo.out.1.2.2.1, HGoo.out.1.2.2.2.1, by show o.val.length ≤ 2000; omega⟩
        have hbd : Below we.heap.size we we.drew := (Below.refl _ we).drew
        have HS := Hdz ((hO.out.sn.below hbd).saveNew (x := x) (by omega) n (by omega) hn8 o.seq ⟨0, 0, o.err, o.num, o.val⟩ HLk.out.1 s1 s2 HGoo.out.1.2.1 hyg hvl1)
        have hle : ¬ o.seq ≤ x.seq := by omega
        have HW := Hdz (Anz hvl1 (Anz hyg hbd))
        clear hvl1 hyg hbd
        go_wp2_with (fail)
        refine wRz ?_
        try simp only [lAz]
        refine tAx 0 ?_; try simp only [lAz]
        refine tAx 1 ?_; try simp only [lAz]
        refine tAx 2 ?_; try simp only [lAz]
        refine tAx 3 ?_; try simp only [lAz]
        refine tAx 5 ?_; try simp only [lAz]
        refine tAx 7 ?_; try simp only [lAz]
        refine rAx 4 (v := ?_) (hy := ?hy) ?_; case hy => (intro w hE; have q0 := hE.cell z1; go_simp; try with_reducible rfl)
        try simp only [lAz]
        refine rAx 6 (v := ?_) (hy := ?hy) ?_; case hy => (intro w hE; have q0 := hE.cell q2; go_simp; try with_reducible rfl)
        try simp only [lAz]
        refine rAx 8 (v := ?_) (hy := ?hy) ?_; case hy => (intro w hE; have q0 := hE.cell q3; have q1 := hE.cell q4; have q2 := hE.cell q5; go_simp; try with_reducible rfl)
        try simp only [lAz]
        refine rZx 9 fun K hK => ?_; go_simp
        (go_must (refine HS.out.mono ?_); rintro e w4 ⟨rfl, hS4, hk4⟩)
        obtain ⟨s', hs'⟩ : ∃ s', newS x ⟨0, 0, o.err, o.num, o.val⟩ o.seq = s' := ⟨_, rfl⟩
        have hsq : s'.seq = o.seq := by rw [← hs']
        have hsr : repV s' = .agg #[.int .i64 o.err, strV o.val, .int .i64 o.num] := by rw [← hs']
        rw [hs'] at hS4
        have hk4' : Keeps (Fq w.heap.size (.slice (some ⟨g1, 0, none⟩) n c1) (.slice (some ⟨g2, 0, none⟩) n c2) (fun k => k = g)) we w4 := (Keeps.of_below HW.out.2.2).go hk4
        have o2 := own_keeps hO.out.sqs hk4' fun k e hF => hF.2.2.1 e
        have z2 : w4.cell? ⟨g2, k, none⟩ = some (.int .i64 x.seq) := (o2.cellAt k (by omega)).trans (by rw [intsV_at, HLk.out.2.1]; rfl)
        have z2d : w4.drew.cell? ⟨g2, k, none⟩ = some (.int .i64 x.seq) := z2
        have zf : w4.frozen? ⟨g2, k, none⟩ = false := o2.frozenAt k
        have zfd : w4.drew.frozen? ⟨g2, k, none⟩ = false := zf
        have hX4 := hX.out.keeps hk4' fun e => e.2.2.2 rfl
        have hX4d := hX4.drew
        have b2 := hX4d.cell 2
        have b2' := hX4.cell 2
        have hgg : g ≠ g2 := fun e => own_ne o2 hX4 (by decide) g2 rfl e.symm
        have hO5 := hO.out.saved (s := s') HK.out hk4' hS4 (Below.refl w4.heap.size w4).drew
        rw [hsq] at hO5
        have hX5 := hX4d.far (p := ⟨g2, k, none⟩) hgg (.int .i64 o.seq)
        have hB5 : Below w.heap.size w (w4.drew.setCell ⟨g2, k, none⟩ (.int .i64 o.seq)) := by
         have h1 := hbw.out.trans (hk4'.base hbw.out.size fun k e => e.1)
         have h2 : Below w4.heap.size w4 w4.drew := (Below.refl _ _).drew
         exact (h1.trans (h2.mono h1.size)).trans (((Keeps.refl (fun k => k = g2) w4.drew).setCell (p := ⟨g2, k, none⟩) (fun _ => rfl) _).below h1.size fun i hi e => by have := (hO.out.sqs.lt g2 rfl).1; omega)
        have hcm : w4.drew.setCell ⟨g2, k, none⟩ (.int .i64 o.seq) = (w4.setCell ⟨g2, k, none⟩ (.int .i64 o.seq)).drew := rfl
        obtain ⟨w5, hw5⟩ := nmz ((w4.setCell ⟨g2, k, none⟩ (.int .i64 o.seq)).drew)
        rw [hcm, hw5] at hO5 hX5 hB5
        clear hcm
        have HO5 := Hdz hO5
        have HX5 := Hdz hX5
        have HB5 := Hdz hB5
        have HW5 := Hdz hw5
        have HS' := Hdz (Anz hsq hsr)
        clear hS4 hk4 hk4' o2 hX4 hX4d hO5 hX5 hB5 hw5 hs' hsq hsr hgg z1 q2 q3 q4 q5
        go_simp
        apply hK
        clear hK K
        refine rZx 10 fun K hK => ?_; go_simp; apply hK; clear hK K
        refine wDx ?_
        go_wp2_with (fail)
        refine wRz ?_
        try simp only [lAz]
        refine tAx 0 ?_; try simp only [lAz]
        refine tAx 2 ?_; try simp only [lAz]
        refine tAx 3 ?_; try simp only [lAz]
        refine tAx 4 ?_; try simp only [lAz]
        refine rAx 1 (v := ?_) (hy := ?hy) ?_; case hy => (intro w hE; have q0 := hE.cell b2; go_simp; try with_reducible rfl)
        try simp only [lAz]
        refine rAx 5 (v := ?_) (hy := ?hy) ?_; case hy => (intro w hE; have q0 := hE.cell z2d; go_simp; try with_reducible rfl)
        try simp only [lAz]
        refine tAx 6 ?_; try simp only [lAz]
        refine wDx ?_
        clear b2
        go_wp2_with (fail)
        rw [HW5.out]
        clear z2 z2d zf zfd b2'
        have z1 : w5.drew.cell? ⟨g1, k, none⟩ = some (.int .i64 (n : Int)) := (HO5.out.ids.cellAt k (by omega)).trans (by rw [upto_at (by omega), ← HK.out])
        have q2 : w5.drew.cell? ⟨g, 2, none⟩ = some (.int .i64 o.seq) := HX5.out.drew.cell 2
        have hlk5 : lookS (setS n s' l) (n : Int) = some s' := by rw [lookS_nat (by omega) hn8, getS_set (by rw [HLk.out.1]; simp)]
        have HLo : Hid (∀ W1, Below w5.heap.size w5 W1 → Calls Tryz.prog 9 #[ptrV bb, .int .i64 (n : Int), .int .i64 o.seq] W1 fun e w' => e = .returned (.tuple #[.agg #[.int .i64 o.err, strV o.val, .int .i64 o.num], .bool true, .int .i64 0]) ∧ Below W1.heap.size W1 w') := fun W1 hb => by
         have := (HO5.out.sn.below hb).lookOld (by omega) _ o.seq hlk5 HS'.out.1.symm (by omega)
         rw [HS'.out.2] at this
         exact this
        have HSv : Hid (∀ W1, Below w5.heap.size w5 W1 → Calls Tryz.prog 8 #[ptrV bb, .int .i64 (n : Int), .int .i64 o.seq, .agg #[.int .i64 o.err, strV o.val, .int .i64 o.num]] W1 fun e w' => e = .returned (.int .i64 8) ∧ Below W1.heap.size W1 w') := fun W1 hb => (HO5.out.sn.below hb).saveDup (by omega) _ o.seq ⟨0, 0, o.err, o.num, o.val⟩ hlk5 HS'.out.1.symm (by omega)
        clear hlk5
        refine wRz ?_
        try simp only [lAz]
        refine tAx 0 ?_; try simp only [lAz]
        refine tAx 1 ?_; try simp only [lAz]
        refine tAx 2 ?_; try simp only [lAz]
        refine tAx 3 ?_; try simp only [lAz]
        refine tAx 5 ?_; try simp only [lAz]
        refine rAx 4 (v := ?_) (hy := ?hy) ?_; case hy => (intro w hE; have q0 := hE.cell z1; go_simp; try with_reducible rfl)
        try simp only [lAz]
        refine rAx 6 (v := ?_) (hy := ?hy) ?_; case hy => (intro w hE; have q0 := hE.cell q2; go_simp; try with_reducible rfl)
        try simp only [lAz]
        refine wpAny_ready (rs := [7, 12]) (by kernel_rfl) (by simp) (aCz (fun K hK => ?_) (aCz (fun K hK => ?_) AllReady.nil))
        ·skip
         go_simp
         (go_must (refine (HLo.out _ (Below.refl _ _).drew).mono ?_); rintro e w6 ⟨rfl, hb6⟩)
         have hb6' : Below w5.heap.size w5 w6 := (Below.refl _ w5).drew.trans hb6
         have hb7d : Below w5.heap.size w5 (w6.alloc (.cells #[.int .i64 o.err, strV o.val, .int .i64 o.num] 32)).drew := (hb6'.alloc hb6'.size _).drew
         have b14 : Blk (w6.alloc (.cells #[.int .i64 o.err, strV o.val, .int .i64 o.num] 32)).drew w6.heap.size 32 #[.int .i64 o.err, strV o.val, .int .i64 o.num] := (Blk.new _ _ _).drew
         have c0 := b14.cell 0
         have c1 := b14.cell 1
         have c2 := b14.cell 2
         clear hb6 hb6' z1 q2 b14
         go_simp
         apply hK
         clear hK K
         try simp only [lAz]
         refine tAx 8 ?_; try simp only [lAz]
         refine tAx 9 ?_; try simp only [lAz]
         refine tAx 10 ?_; try simp only [lAz]
         refine tAx 11 ?_; try simp only [lAz]
         refine rZx 12 fun K hK => ?_; go_simp; apply hK; clear hK K
         refine rZx 13 fun K hK => ?_; go_simp; apply hK; clear hK K
         try simp only [lAz]
         refine tAx 14 ?_; try simp only [lAz]
         refine tAx 15 ?_; try simp only [lAz]
         refine wDx ?_
         have z1 := (HO5.out.below hb7d).ids.cellAt k (by omega)
         rw [upto_at (by omega), ← HK.out] at z1
         have hXd := Blk.below' HX5.out hb7d
         have q2 := hXd.cell 2
         have q3 := hXd.cell 3
         have q4 := hXd.cell 4
         have q5 := hXd.cell 5
         have HS8 := Hdz (HSv.out _ hb7d)
         have HD7 := Hdz hb7d
         clear hXd hb7d
         go_wp2_with (fail)
         refine wRz ?_
         try simp only [lAz]
         refine tAx 0 ?_; try simp only [lAz]
         refine tAx 1 ?_; try simp only [lAz]
         refine tAx 2 ?_; try simp only [lAz]
         refine tAx 3 ?_; try simp only [lAz]
         refine tAx 4 ?_; try simp only [lAz]
         refine tAx 5 ?_; try simp only [lAz]
         refine tAx 6 ?_; try simp only [lAz]
         refine tAx 8 ?_; try simp only [lAz]
         refine rAx 7 (v := ?_) (hy := ?hy) ?_; case hy => (intro w hE; have q0 := hE.cell c0; have q1 := hE.cell c1; have q2 := hE.cell c2; go_simp; try with_reducible rfl)
         try simp only [lAz]
         refine rAx 9 (v := ?_) (hy := ?hy) ?_; case hy => (intro w hE; have q0 := hE.cell q3; have q1 := hE.cell q4; have q2 := hE.cell q5; go_simp; try with_reducible rfl)
         try simp only [lAz]
         refine tAx 10 ?_; try simp only [lAz]
         refine tAx 11 ?_; try simp only [lAz]
         refine tAx 12 ?_; try simp only [lAz]
         refine tAx 13 ?_; try simp only [lAz]
         refine tAx 14 ?_; try simp only [lAz]
         refine tAx 15 ?_; try simp only [lAz]
         refine tAx 16 ?_; try simp only [lAz]
         refine tAx 18 ?_; try simp only [lAz]
         refine tAx 20 ?_; try simp only [lAz]
         refine rAx 17 (v := ?_) (hy := ?hy) ?_; case hy => (intro w hE; have q0 := hE.cell z1; go_simp; try with_reducible rfl)
         try simp only [lAz]
         refine rAx 19 (v := ?_) (hy := ?hy) ?_; case hy => (intro w hE; have q0 := hE.cell q2; go_simp; try with_reducible rfl)
         try simp only [lAz]
         refine rAx 21 (v := ?_) (hy := ?hy) ?_; case hy => (intro w hE; have q0 := hE.cell q3; have q1 := hE.cell q4; have q2 := hE.cell q5; go_simp; try with_reducible rfl)
         try simp only [lAz]
         refine rZx 22 fun K hK => ?_; go_simp
         (go_must (refine HS8.out.mono ?_); rintro e w8 ⟨rfl, hb8⟩)
         have HO8 := Hdz (HO5.out.below (HD7.out.trans (hb8.mono HD7.out.size)))
         have HB8 := Hdz (HB5.out.trans ((HD7.out.trans (hb8.mono HD7.out.size)).mono HB5.out.size))
         clear hb8
         go_simp
         apply hK
         clear hK K
         refine rZx 23 fun K hK => ?_; go_simp; apply hK; clear hK K
         refine rZx 24 fun K hK => ?_; go_simp; apply hK; clear hK K
         refine wDx ?_
         go_wp2_with (fail)
         go_meet
         exact ⟨q + 1, _, _, rfl, by omega, HO8.out, HB8.out⟩
        ·skip
         go_simp
         apply hK
         clear hK K
         have hba : Below w5.heap.size w5 (w5.drew.alloc (.cells #[.int .i64 0, strV [], .int .i64 0] 32)) := (Below.refl _ w5).drew.alloc (by show w5.heap.size ≤ w5.heap.size; omega) _
         have b14 : Blk (w5.drew.alloc (.cells #[.int .i64 0, strV [], .int .i64 0] 32)) w5.heap.size 32 #[.int .i64 0, strV [], .int .i64 0] := Blk.new w5.drew _ _
         obtain ⟨gb, hgb⟩ := nmz (w5.heap.size)
         rw [hgb] at b14
         have HBA := Hdz (Anz hba (Anz b14 hgb))
         clear hba b14 hgb z1 q2
         refine rZx 7 fun K hK => ?_; go_simp
         (go_must (refine (HLo.out _ HBA.out.1).mono ?_); rintro e w6 ⟨rfl, hb6⟩)
         have b6 := Blk.below' HBA.out.2.1 hb6
         have k0 := b6.cell 0
         have k1 := b6.cell 1
         have k2 := b6.cell 2
         have kf0 := b6.frozen 0
         have kf1 := b6.frozen 1
         have kf2 := b6.frozen 2
         have hb6' : Below w5.heap.size w5 w6 := HBA.out.1.trans (hb6.mono HBA.out.1.size)
         have hgz : w5.heap.size ≤ gb := by have := HBA.out.2.2; omega
         obtain ⟨d1, d2⟩ := blk3_end (.int .i64 o.err) (strV o.val) (.int .i64 o.num) hb6' hgz b6
         have hb7d := d2.drew
         have b14 := d1.drew
         have c0 := b14.cell 0
         have c1 := b14.cell 1
         have c2 := b14.cell 2
         have HD12 := Hdz (Anz hb7d (Anz c0 (Anz c1 c2)))
         clear hb6 hb6' b6 d1 d2 b14 hb7d c0 c1 c2 hgz
         rw [HBA.out.2.2]
         go_simp
         apply hK
         clear hK K
         try simp only [lAz]
         refine tAx 8 ?_; try simp only [lAz]
         refine tAx 9 ?_; try simp only [lAz]
         refine tAx 10 ?_; try simp only [lAz]
         refine tAx 11 ?_; try simp only [lAz]
         refine rZx 13 fun K hK => ?_; go_simp; apply hK; clear hK K
         try simp only [lAz]
         refine tAx 14 ?_; try simp only [lAz]
         refine tAx 15 ?_; try simp only [lAz]
         refine wDx ?_
         clear k0 k1 k2 kf0 kf1 kf2
         obtain ⟨hb7d, c0, c1, c2⟩ := HD12.out
         have z1 := (HO5.out.below hb7d).ids.cellAt k (by omega)
         rw [upto_at (by omega), ← HK.out] at z1
         have hXd := Blk.below' HX5.out hb7d
         have q2 := hXd.cell 2
         have q3 := hXd.cell 3
         have q4 := hXd.cell 4
         have q5 := hXd.cell 5
         have HS8 := Hdz (HSv.out _ hb7d)
         have HD7 := Hdz hb7d
         clear hXd hb7d
         go_wp2_with (fail)
         refine wRz ?_
         try simp only [lAz]
         refine tAx 0 ?_; try simp only [lAz]
         refine tAx 1 ?_; try simp only [lAz]
         refine tAx 2 ?_; try simp only [lAz]
         refine tAx 3 ?_; try simp only [lAz]
         refine tAx 4 ?_; try simp only [lAz]
         refine tAx 5 ?_; try simp only [lAz]
         refine tAx 6 ?_; try simp only [lAz]
         refine tAx 8 ?_; try simp only [lAz]
         refine rAx 7 (v := ?_) (hy := ?hy) ?_; case hy => (intro w hE; have q0 := hE.cell c0; have q1 := hE.cell c1; have q2 := hE.cell c2; go_simp; try with_reducible rfl)
         try simp only [lAz]
         refine rAx 9 (v := ?_) (hy := ?hy) ?_; case hy => (intro w hE; have q0 := hE.cell q3; have q1 := hE.cell q4; have q2 := hE.cell q5; go_simp; try with_reducible rfl)
         try simp only [lAz]
         refine tAx 10 ?_; try simp only [lAz]
         refine tAx 11 ?_; try simp only [lAz]
         refine tAx 12 ?_; try simp only [lAz]
         refine tAx 13 ?_; try simp only [lAz]
         refine tAx 14 ?_; try simp only [lAz]
         refine tAx 15 ?_; try simp only [lAz]
         refine tAx 16 ?_; try simp only [lAz]
         refine tAx 18 ?_; try simp only [lAz]
         refine tAx 20 ?_; try simp only [lAz]
         refine rAx 17 (v := ?_) (hy := ?hy) ?_; case hy => (intro w hE; have q0 := hE.cell z1; go_simp; try with_reducible rfl)
         try simp only [lAz]
         refine rAx 19 (v := ?_) (hy := ?hy) ?_; case hy => (intro w hE; have q0 := hE.cell q2; go_simp; try with_reducible rfl)
         try simp only [lAz]
         refine rAx 21 (v := ?_) (hy := ?hy) ?_; case hy => (intro w hE; have q0 := hE.cell q3; have q1 := hE.cell q4; have q2 := hE.cell q5; go_simp; try with_reducible rfl)
         try simp only [lAz]
         refine rZx 22 fun K hK => ?_; go_simp
         (go_must (refine HS8.out.mono ?_); rintro e w8 ⟨rfl, hb8⟩)
         have HO8 := Hdz (HO5.out.below (HD7.out.trans (hb8.mono HD7.out.size)))
         have HB8 := Hdz (HB5.out.trans ((HD7.out.trans (hb8.mono HD7.out.size)).mono HB5.out.size))
         clear hb8
         go_simp
         apply hK
         clear hK K
         refine rZx 23 fun K hK => ?_; go_simp; apply hK; clear hK K
         refine rZx 24 fun K hK => ?_; go_simp; apply hK; clear hK K
         refine wDx ?_
         go_wp2_with (fail)
         go_meet
         exact ⟨q + 1, _, _, rfl, by omega, HO8.out, HB8.out⟩
     case rest =>
      obtain ⟨q2, l2, sq2, rfl, hq2, hO2, hb2⟩ := hcut
      obtain ⟨wf, rfl⟩ : ∃ wf, wf = wc := ⟨_, rfl⟩
      have HLi := Hdz (hO2.out.sn.list (by omega))
      obtain ⟨p, hp⟩ := nmz (l2.length)
      have hp0 := hO2.out.inv.len
      rw [hp] at hp0
      have hmin : min (n : Int) 40 = (p : Int) := by omega
      have hp40 : ¬ (40 : Int) < (p : Int) := by omega
      obtain ⟨d, hd⟩ := nmz (n - p)
      have hd1 : (n : Int) - (p : Int) = (d : Int) := by omega
      have hwd : IntKind.i64.wrap (d : Int) = (d : Int) := IntWalk.i64_in _ (by omega)
      have hpn : p ≤ n := by omega
      have HP := Hdz (Anz hp hd)
      clear hO hbw hX hp0 hp hd hb79
      go_wp2_with (fail)
      go_must (refine HLi.out.mono ?_)
      rintro e w3 ⟨v, rfl, hown, hb3⟩
      rw [HP.out.1] at hown
      obtain ⟨Al, cl, rfl, -⟩ := Sl.of_own hown
      have HL3 := Hdz (Sl.of_own hown)
      have HO3 := Hdz (hO2.out.below hb3)
      have HB3 := Hdz (hb2.out.trans (hb3.mono hb2.out.size))
      clear hown hb3
      go_wp2_with (fail)
      go_loopg [19] p (fun gk s19 wr => ∃ j : Nat, s19 = .int .i64 (j : Int) ∧ gk = p - j ∧ j ≤ p ∧ Hid (Below w3.heap.size w3 wr))
      case atStart => exact ⟨0, rfl, by omega, by omega, Below.refl _ _⟩
      case round =>
       obtain ⟨j, rfl, hgk3, hj, hbr⟩ := hrel
       by_cases h3 : j < p
       ·have h3' : (j : Int) < (p : Int) := by omega
        have hj0 : (0 : Int) ≤ (j : Int) := by omega
        have hw1 : IntKind.i64.wrap ((j : Int) + 1) = (j : Int) + 1 := IntWalk.i64_in _ (by omega)
        obtain ⟨dj, hdj⟩ := nmz (d + j)
        have hdj1 : (d : Int) + (j : Int) = (dj : Int) := by omega
        have hwj : IntKind.i64.wrap (dj : Int) = (dj : Int) := IntWalk.i64_in _ (by omega)
        have hdj0 : (0 : Int) ≤ (dj : Int) := by omega
        have hdn : dj < n := by have := HP.out.2; omega
        have hdn' : (dj : Int) < (n : Int) := by omega
        obtain ⟨g1, p1, e1, _, hg1l⟩ := HO3.out.ids.form (by omega)
        cases e1
        obtain ⟨_, _, e0, _, _, hcl⟩ := HL3.out
        cases e0
        obtain ⟨bl2, of2, rfl, hbl2, hcell⟩ := hcl (by omega)
        obtain ⟨e, he⟩ := nmz (dj + 1)
        have hjl : j < l2.length := by have := HP.out.1; omega
        have hid : l2[j].1 = e := by
         rw [HO3.out.inv.ids j hjl, ← he, ← hdj, HP.out.1]
         have := HP.out.2
         omega
        have y0 : wr.drew.cell? ⟨bl2, of2 + j, none⟩ = some (.int .i64 (e : Int)) := (hbr.out.drew.cell (p := ⟨bl2, of2 + j, none⟩) hbl2).trans (hcell _ _ (by unfold intsV; rw [List.getElem?_map, List.getElem?_map, List.getElem?_eq_getElem hjl]; simp [hid]))
        have y1 : wr.drew.cell? ⟨g1, dj, none⟩ = some (.int .i64 (e : Int)) := ((HO3.out.below hbr.out.drew).ids.cellAt dj (by omega)).trans (by rw [upto_at hdn, he])
        have HB4 := Hdz hbr.out.drew
        have HDJ := Hdz (Anz hdj he)
        clear hcl hcell hbl2 hjl hid he hdj hbr
        go_wp2_with (fail)
        refine wRz ?_
        try simp only [lAz]
        refine tAx 0 ?_; try simp only [lAz]
        refine tAx 1 ?_; try simp only [lAz]
        refine tAx 2 ?_; try simp only [lAz]
        refine tAx 4 ?_; try simp only [lAz]
        refine tAx 5 ?_; try simp only [lAz]
        refine tAx 6 ?_; try simp only [lAz]
        refine tAx 7 ?_; try simp only [lAz]
        refine tAx 8 ?_; try simp only [lAz]
        refine tAx 9 ?_; try simp only [lAz]
        refine tAx 10 ?_; try simp only [lAz]
        refine tAx 11 ?_; try simp only [lAz]
        refine tAx 12 ?_; try simp only [lAz]
        refine rAx 3 (v := ?_) (hy := ?hy) ?_; case hy => (intro w hE; have q0 := hE.cell y0; go_simp; try with_reducible rfl)
        try simp only [lAz]
        refine rAx 13 (v := ?_) (hy := ?hy) ?_; case hy => (intro w hE; have q0 := hE.cell y1; go_simp; try with_reducible rfl)
        try simp only [lAz]
        refine tAx 14 ?_; try simp only [lAz]
        refine wDx ?_
        go_wp2_with (fail)
        go_roundg (p - (j + 1))
        case measure => omega
        case rel => exact ⟨j + 1, by simp, by omega, by omega, HB4.out⟩
       ·have h3' : ¬ (j : Int) < (p : Int) := by omega
        have hw1 : IntKind.i64.wrap ((i : Int) + 1) = (i : Int) + 1 := IntWalk.i64_in _ (by omega)
        have HO4 := Hdz (HO3.out.below hbr.out).unbox
        have HB4 := Hdz (HB3.out.trans (hbr.out.mono HB3.out.size))
        clear hbr
        go_wp2_with (fail)
        go_roundg (m - (i + 1))
        case measure => omega
        case rel => exact ⟨i + 1, q2, n, l2, sq2, A1, A2, c1, c2, by simp, by simp, by simp, by simp, by omega, by omega, by omega, by omega, HO4.out, HB4.out⟩
  ·have h1' : ¬ (i : Int) < (m : Int) := by omega
   have HB2 := Hdz hbw.out
   clear hO hbw
   go_wp2_with (fail)
   go_must (refine (alive24 _).mono ?_)
   rintro e w9 ⟨rfl, hb9⟩
   have HB9 := Hdz (HB2.out.trans (hb9.mono HB2.out.size))
   clear hb9
   go_wp2_with (fail)
   go_ret
   exact ⟨rfl, HB9.out⟩
end Go.Ev
