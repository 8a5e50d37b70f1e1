/-
  Texts of this claim.
-/
import Derived.Test.YtmnniabfbelpbaaGreatDoorMGwAlive25
import Derived.Test.YtmnniabfbelpbaaGreatDoorMGwSame
set_option linter.unusedVariables false
set_option linter.unusedSimpArgs false
namespace Go.Ev
open Go.Proofs Go.RowKit
set_option maxHeartbeats 16000000 in
set_option maxRecDepth 100000 in
theorem same_walk (A : Option Addr) (n c : Nat) (ops : List KOp) (w : World) (h : KopsAt w (.slice A n c) ops) (hG : ∀ o ∈ ops, GoodK o) :
  Calls Tryz.prog 3 #[.slice A n c] w (TrueB w) := by
 have HAl : Hid (∀ W, Calls Tryz.prog 7 #[] W (TrueB W)) := fun W => alive25 W
 have HF := Hdz (few_any A n c ops w h)
 have hn : n = ops.length := by obtain ⟨⟨_, _, e, _⟩, _⟩ := h; cases e; rfl
 subst hn
 have HA := Hdz h
 have HGd := Hdz hG
 have hml : ops.length ≤ 9223372036854775807 := by have := h.2.1; unfold maxLen at this; exact this
 clear h hG
 go_enter Tryz.func3, Tryz.ntmps3
 go_wp2_with (fail)
 go_must (refine HF.out.mono ?_)
 rintro e w1 ⟨bl, rfl, hfew, hb1⟩
 have HB1 := Hdz hb1
 have HFew := Hdz hfew
 clear hb1 hfew
 cases bl
 case false =>
  go_wp2_with (fail)
  go_must (refine (HAl.out _).mono ?_)
  rintro e w2 ⟨rfl, hb2⟩
  have HB2 := Hdz (HB1.out.trans (hb2.mono HB1.out.size))
  clear hb2
  go_wp2_with (fail)
  go_ret
  exact ⟨rfl, HB2.out⟩
 case true =>
 have hf2 : ops.length ≤ 200 := (HFew.out (by first | rfl | trivial)).1
 go_wp2_with (fail)
 go_must (refine (begin25 _).mono ?_)
 rintro e w2 ⟨ba, u, rfl, hS, hu, hb2⟩
 obtain ⟨A2, c2, rfl, -⟩ := Sl.of_own hu
 have HS2 := Hdz (KvAt.zero hS)
 have HB2 := Hdz (HB1.out.trans (hb2.mono HB1.out.size))
 have HZ1 := Hdz (Anz HB1.out.size hb2.size)
 clear hS hu hb2
 go_wp2_with (fail)
 go_must (refine (begin25 _).mono ?_)
 rintro e w3 ⟨bb, u, rfl, hS, hu, hb3⟩
 obtain ⟨A3, c3, rfl, -⟩ := Sl.of_own hu
 have HT3 := Hdz (Two.begin HS2.out (B0 := w1.heap.size) (fun k e => e) hb3 (KvAt.zero hS) HZ1.out.2)
 have HB3 := Hdz (HB2.out.trans (hb3.mono HB2.out.size))
 have HZ3 : Hid (w1.heap.size ≤ w3.heap.size) := by have := HZ1.out.2; have := hb3.size; exact Nat.le_trans HZ1.out.2 hb3.size
 clear hS hu hb3
 go_wp2_with (fail)
 go_loopg [9] ops.length (fun gk s9 wr => ∃ (i : Nat) (s : KSt), s9 = .int .i64 (i : Int) ∧ i + gk = ops.length ∧ Hid (Two (fun _ => False) w1.heap.size ba bb i i (sizK (ops.take i)) (sizK (ops.take i)) s s wr) ∧ Hid (w1.heap.size ≤ wr.heap.size) ∧ Below w.heap.size w wr)
 case atStart => exact ⟨0, _, rfl, by omega, HT3.out, HZ3.out, HB3.out⟩
 case round =>
  obtain ⟨i, s, rfl, hi, HTi, HZi, hbw⟩ := hrel
  have HBw := Hdz hbw
  by_cases hlt : i < ops.length
  case pos =>
   have h1' : (i : Int) < (ops.length : Int) := by omega
   have hi0 : (0 : Int) ≤ (i : Int) := by omega
   have hw1 : IntKind.i64.wrap ((i : Int) + 1) = (i : Int) + 1 := IntWalk.i64_in _ (by omega)
   have HSl := Hdz HA.out.1
   obtain ⟨A', c', e0, _, _, hcl⟩ := HA.out.1.below hbw
   cases e0
   obtain ⟨blk, off, rfl, hbl, hcell⟩ := hcl (by omega)
   have HBl : Hid (blk < w.heap.size) := by obtain ⟨_, _, e0, _, _, hcl⟩ := HSl.out; cases e0; obtain ⟨_, _, e, hb, _⟩ := hcl (by omega); cases e; exact hb
   have x0 : wr.cell? ⟨blk, off + i * 6, none⟩ = _ := hcell _ _ (flat_at kopCs_len ops i 0 hlt (by omega))
   have x1 : wr.cell? ⟨blk, off + i * 6 + 1, none⟩ = _ := hcell _ _ (flat_at kopCs_len ops i 1 hlt (by omega))
   have x2 : wr.cell? ⟨blk, off + i * 6 + 2, none⟩ = _ := hcell _ _ (flat_at kopCs_len ops i 2 hlt (by omega))
   have x3 : wr.cell? ⟨blk, off + i * 6 + 3, none⟩ = _ := hcell _ _ (flat_at kopCs_len ops i 3 hlt (by omega))
   have x4 : wr.cell? ⟨blk, off + i * 6 + 4, none⟩ = _ := hcell _ _ (flat_at kopCs_len ops i 4 hlt (by omega))
   have x5 : wr.cell? ⟨blk, off + i * 6 + 5, none⟩ = _ := hcell _ _ (flat_at kopCs_len ops i 5 hlt (by omega))
   have hst := sizK_take ops i hlt
   have hle := sizK_le ops (i + 1)
   have hf := (HFew.out (by first | rfl | trivial)).2
   have HX : Hid (∀ W, Below w.heap.size w W → W.cell? ⟨blk, off + i * 6, none⟩ = some (.int .i64 ops[i].kind) ∧ W.cell? ⟨blk, off + i * 6 + 1, none⟩ = some (.int .i64 ops[i].ses) ∧ W.cell? ⟨blk, off + i * 6 + 2, none⟩ = some (.int .i64 ops[i].seq) ∧ W.cell? ⟨blk, off + i * 6 + 3, none⟩ = some (strV ops[i].key) ∧ W.cell? ⟨blk, off + i * 6 + 4, none⟩ = some (strV ops[i].val) ∧ W.cell? ⟨blk, off + i * 6 + 5, none⟩ = some (strV ops[i].old)) := by
    intro W hb
    obtain ⟨A', c', e0, _, _, hcl⟩ := HSl.out.below hb
    cases e0
    obtain ⟨blk', off', e, hbl, hcell⟩ := hcl (by omega)
    cases e
    exact ⟨hcell _ _ (flat_at kopCs_len ops i 0 hlt (by omega)), hcell _ _ (flat_at kopCs_len ops i 1 hlt (by omega)), hcell _ _ (flat_at kopCs_len ops i 2 hlt (by omega)), hcell _ _ (flat_at kopCs_len ops i 3 hlt (by omega)), hcell _ _ (flat_at kopCs_len ops i 4 hlt (by omega)), hcell _ _ (flat_at kopCs_len ops i 5 hlt (by omega))⟩
   have HGo := Hdz (HGd.out _ (List.getElem_mem hlt))
   have HD := Hdz (HTi.out.doA ops[i] HGo.out (by omega) (by omega) HZi.out)
   have HVl : Hid (sizK (ops.take i) + ops[i].val.length ≤ sizK (ops.take (i + 1)) ∧ sizK (ops.take (i + 1)) ≤ 60000) := ⟨by omega, by omega⟩
   clear hst hle hf hcell hcl HTi HSl hbw hbl
   generalize ops[i] = o at *
   obtain ⟨⟨⟨re, rv, rm⟩, s'⟩, hdk⟩ : ∃ r, doK s o = r := ⟨_, rfl⟩
   rw [hdk] at HD
   have HDk := Hdz hdk
   clear hdk
   go_wp2_with (fail)
   go_must (refine HD.out.mono ?_)
   rintro e w4 ⟨rfl, hT4, hb4, -⟩
   have HB4 := Hdz (HBw.out.trans (hb4.mono HZ1.out.1))
   obtain ⟨w5, hw5⟩ := nmz (w4.alloc (.cells #[.int .i64 re, strV rv, .int .i64 rm] 32))
   obtain ⟨g5, hg5⟩ := nmz (w4.heap.size)
   have hba : Below w4.heap.size w4 w5 := by rw [← hw5]; exact (Below.refl _ _).alloc (Nat.le_refl _) _
   have b5 : Blk w5 g5 32 #[.int .i64 re, strV rv, .int .i64 rm] := by rw [← hw5, ← hg5]; exact Blk.new _ _ _
   have HB5 := Hdz (HB4.out.trans (hba.mono HB4.out.size))
   have hT5 := (hT4.new hba).flip
   have hz5 : w1.heap.size ≤ w5.heap.size := Nat.le_trans HZi.out (Nat.le_trans hb4.size hba.size)
   have hd := hT5.doA o HGo.out (by omega) (by have := HVl.out; omega) hz5
   rw [HDk.out] at hd
   have HD5 := Hdz hd
   have H5 := Hdz b5
   have HZ5 := Hdz hz5
   have HG5 : Hid (w4.heap.size ≤ g5 ∧ g5 < w5.heap.size) := ⟨by omega, b5.lt⟩
   obtain ⟨x0, x1, x2, x3, x4, x5⟩ := HX.out w4 HB4.out
   have hbl4 : blk < w4.heap.size := Nat.lt_of_lt_of_le HBl.out HB4.out.size
   have HW5 := Hdz (Anz hw5 hg5)
   clear hT4 hb4 hba b5 hT5 hz5 hd hw5 hg5
   go_wp2_with (fail)
   rw [HW5.out.1, HW5.out.2]
   go_must (refine HD5.out.mono ?_)
   rintro e w6 ⟨rfl, hT6, hb6, hk6⟩
   have HT6 := Hdz ((hT6.flip.less (K' := fun _ => False) (fun _ e => e.elim)).to (E := sizK (ops.take (i + 1))) HVl.out.1 HVl.out.1)
   have b5 := H5.out.keeps hk6 fun e => e (.inr HG5.out)
   have HB6 := Hdz (HB5.out.trans (hb6.mono HZ1.out.1))
   obtain ⟨w7, hw7⟩ := nmz (w6.alloc (.cells #[.int .i64 re, strV rv, .int .i64 rm] 32))
   obtain ⟨g7, hg7⟩ := nmz (w6.heap.size)
   have hba : Below w6.heap.size w6 w7 := by rw [← hw7]; exact (Below.refl _ _).alloc (Nat.le_refl _) _
   have b7 : Blk w7 g7 32 #[.int .i64 re, strV rv, .int .i64 rm] := by rw [← hw7, ← hg7]; exact Blk.new _ _ _
   have HT7 := Hdz ((HT6.out.new hba).less (K' := fun _ => False) fun _ e => e.elim)
   have HB7 := Hdz (HB6.out.trans (hba.mono HB6.out.size))
   have HZ7 : Hid (w1.heap.size ≤ w7.heap.size) := Nat.le_trans HZ5.out (Nat.le_trans hb6.size hba.size)
   have b5' := b5.below' hba
   have y0 := b5'.cell 0
   have y1 := b5'.cell 1
   have y2 := b5'.cell 2
   have z0 := b7.cell 0
   have z1 := b7.cell 1
   have z2 := b7.cell 2
   have HW7 := Hdz (Anz hw7 hg7)
   clear hT6 hb6 hk6 b5 hba b5' b7 hw7 hg7 x0 x1 x2 x3 x4 x5 hbl4
   go_upto_region 12 with fail
   rw [HW7.out.1, HW7.out.2]
   go_wp2_with (fail)
   go_roundg (gk - 1)
   case measure => omega
   case rel => exact ⟨i + 1, _, by simp, by omega, HT7.out, HZ7.out, HB7.out⟩
  case neg =>
   have h1' : ¬ (i : Int) < (ops.length : Int) := by omega
   obtain ⟨F, G, ha, hb, -⟩ := HTi.out
   have hla := ha.2.len
   have hlb := ha.1.few
   have hls := ssP_le1 s.2.1 s.2.2
   have HA1 := Hdz ha
   have HB1 := Hdz hb
   obtain ⟨pl, hpl⟩ := nmz (s.1.2)
   obtain ⟨sl, hsl⟩ := nmz (ssP s.2.1 s.2.2)
   rw [hpl] at hla
   rw [hsl] at hls
   have HR1 : Hid (∀ W, Below wr.heap.size wr W → Calls Tryz.prog 10 #[ptrV ba, strV dataK, strV [], strV [], .int .i64 0] W (RangePost W.heap.size pl W)) := fun W hW => by have := (HA1.out.below hW).rangeD (by omega) _ rfl; rw [hpl] at this; exact this
   have HR2 : Hid (∀ W, Below wr.heap.size wr W → Calls Tryz.prog 10 #[ptrV bb, strV dataK, strV [], strV [], .int .i64 0] W (RangePost W.heap.size pl W)) := fun W hW => by have := (HB1.out.below hW).rangeD (by omega) _ rfl; rw [hpl] at this; exact this
   have HR3 : Hid (∀ W, Below wr.heap.size wr W → Calls Tryz.prog 10 #[ptrV ba, strV sessK, strV [], strV [], .int .i64 0] W (RangePost W.heap.size sl W)) := fun W hW => by have := (HA1.out.below hW).rangeS (by omega) _ rfl; rw [hsl] at this; exact this
   have HR4 : Hid (∀ W, Below wr.heap.size wr W → Calls Tryz.prog 10 #[ptrV bb, strV sessK, strV [], strV [], .int .i64 0] W (RangePost W.heap.size sl W)) := fun W hW => by have := (HB1.out.below hW).rangeS (by omega) _ rfl; rw [hsl] at this; exact this
   clear ha hb hbw hpl hsl
   go_wp2_with (fail)
   go_must (refine (HR1.out _ (Below.refl _ _)).mono ?_)
   rintro e v4 ⟨p4, rfl, hc4, hb4⟩
   obtain ⟨A4, rfl, -, -⟩ := hc4.sl
   have HC4 := Hdz hc4
   have HB4 := Hdz hb4
   clear hc4 hb4
   go_wp2_with (fail)
   go_must (refine (HR2.out _ HB4.out).mono ?_)
   rintro e v5 ⟨p5, rfl, hc5, hb5⟩
   obtain ⟨A5, rfl, -, -⟩ := hc5.sl
   have HC5 := Hdz (Anz (HC4.out.below hb5) hc5)
   have HB5 := Hdz (HB4.out.trans (hb5.mono HB4.out.size))
   clear hc5 hb5
   go_wp2_with (fail)
   go_must (refine (HR3.out _ HB5.out).mono ?_)
   rintro e v6 ⟨p6, rfl, hc6, hb6⟩
   obtain ⟨A6, rfl, -, -⟩ := hc6.sl
   have HC6 := Hdz (Anz (HC5.out.1.below hb6) (Anz (HC5.out.2.below hb6) hc6))
   have HB6 := Hdz (HB5.out.trans (hb6.mono HB5.out.size))
   clear hc6 hb6
   go_wp2_with (fail)
   go_must (refine (HR4.out _ HB6.out).mono ?_)
   rintro e v7 ⟨p7, rfl, hc7, hb7⟩
   obtain ⟨A7, rfl, -, -⟩ := hc7.sl
   have HC7 := Hdz (Anz (HC6.out.1.below hb7) (Anz (HC6.out.2.1.below hb7) (Anz (HC6.out.2.2.below hb7) hc7)))
   have HB7 := Hdz (HB6.out.trans (hb7.mono HB6.out.size))
   clear hc7 hb7
   go_wp2_with (fail)
   go_must (refine (HAl.out _).mono ?_)
   rintro e v8 ⟨rfl, hb8⟩
   have HB8 := Hdz (HB7.out.trans (hb8.mono HB7.out.size))
   obtain ⟨a1, e1, -, q1⟩ := (HC7.out.1.below hb8).sl
   obtain ⟨a2, e2, -, q2⟩ := (HC7.out.2.1.below hb8).sl
   cases e1
   cases e2
   have hsm := samePairs_any _ _ _ _ _ _ pl pl v8 q1 q2 (by omega) (by omega)
   rw [decide_eq_true rfl] at hsm
   have HSm := Hdz hsm
   have HC8 := Hdz (Anz (HC7.out.2.2.1.below hb8) (HC7.out.2.2.2.below hb8))
   clear q1 q2 hsm hb8
   go_wp2_with (fail)
   go_must (refine HSm.out.mono ?_)
   rintro e v9 ⟨rfl, hb9⟩
   have HB9 := Hdz (HBw.out.trans ((HB8.out.trans (hb9.mono HB8.out.size)).mono HBw.out.size))
   obtain ⟨a1, e1, -, q1⟩ := (HC8.out.1.below hb9).sl
   obtain ⟨a2, e2, -, q2⟩ := (HC8.out.2.below hb9).sl
   cases e1
   cases e2
   have hsm := samePairs_any _ _ _ _ _ _ sl sl v9 q1 q2 (by omega) (by omega)
   rw [decide_eq_true rfl] at hsm
   have HSm2 := Hdz hsm
   clear q1 q2 hsm hb9
   go_wp2_with (fail)
   go_must (refine HSm2.out.mono ?_)
   rintro e v10 ⟨rfl, hb10⟩
   have HB10 := Hdz (HB9.out.trans (hb10.mono HB9.out.size))
   clear hb10
   go_wp2_with (fail)
   go_ret
   exact ⟨rfl, HB10.out⟩
end Go.Ev
