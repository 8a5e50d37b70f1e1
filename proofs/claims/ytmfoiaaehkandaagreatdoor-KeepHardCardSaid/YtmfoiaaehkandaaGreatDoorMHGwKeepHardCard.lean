/-
  The law arboretumlaw19.KeepHard, walked over the contracts of all that it calls.  The law arboretumlaw19.KeepHard holds, whatever it is handed: its text is walked over the contracts of all that it calls; conditions: the row's own (the listed variables are as the program's text lays them). The law arboretumlaw19.KeepHard holds, whatever it is handed: its text is walked over the contracts of all that it calls; conditions: the row's own (the listed variables are as the program's text lays them).
-/
import Derived.Test.YtmfoiaaehkandaaGreatDoorMHGvHard
import Derived.Test.YtmfoiaaehkandaaGreatDoorMHGwAlive19
import Derived.Carry
import Derived.ChangeMaps5
import Derived.Deep.DeepCutAuto
import Derived.LaidMore
import Derived.Lay
import Derived.OpenShut
import Derived.ProofKit
import Derived.SevenTiedAt
import Derived.Stop.Joined
import Derived.Test.YtmfoiaaehkandaaGreatDoorCards
import Derived.Test.YtmfoiaaehkandaaGreatDoorTie
set_option linter.unusedVariables false
set_option linter.unusedSimpArgs false
namespace Go.Ev
open Go.Proofs Go.RowKit
theorem batchH {x y z a : Int} (hx : I64 x) (hy : I64 y) (hz : I64 z) (ha : I64 a) : BatchOk 0 0 [] x y z none [] none a :=
 ⟨⟨hx, hy, hz⟩, ha, lg_few trivial (by simp) (fun o h => by cases h) (by omega) (by omega), (fun s e => by cases e), (fun k e => by cases e), lg_few trivial (by simp [cutE, snE]) (fun o h => by cases h) (by decide) (by simp), (fun o h => by cases h)⟩
set_option maxHeartbeats 16000000 in
set_option maxRecDepth 100000 in
theorem hard_walk (a0 a1 a2 b0 b1 b2 : Int) (has : Bool) (ap : Int) (w : World) (ha0 : I64 a0) (ha1 : I64 a1) (ha2 : I64 a2) (hb0 : I64 b0) (hb1 : I64 b1) (hb2 : I64 b2) (hap : I64 ap) :
  Calls Tryz.prog 5 #[.agg #[.int .i64 a0, .int .i64 a1, .int .i64 a2], .agg #[.int .i64 b0, .int .i64 b1, .int .i64 b2], .bool has, .int .i64 ap] w (TrueB w) := by
 have HAl : Hid (∀ W, Calls Tryz.prog 8 #[] W (TrueB W)) := fun W => alive19 W
 have HIa := Hdz (Anz ha0 (Anz ha1 ha2))
 have HIb := Hdz (Anz hb0 (Anz hb1 hb2))
 have HIp := Hdz hap
 obtain ⟨w0, hw0⟩ := nmz ((w.alloc (.cells #[.int .i64 a0, .int .i64 a1, .int .i64 a2] 23)).alloc (.cells #[.int .i64 b0, .int .i64 b1, .int .i64 b2] 23))
 have HB0 : Hid (Below w.heap.size w w0) := by show Below _ _ _; rw [← hw0]; exact ((Below.refl _ _).alloc (Nat.le_refl _) _).alloc (by simp) _
 have HXa : Hid (Blk w0 w.heap.size 23 #[.int .i64 a0, .int .i64 a1, .int .i64 a2]) := by show Blk _ _ _ _; rw [← hw0]; exact (Blk.new _ _ _).alloc _
 have HXb : Hid (Blk w0 (w.heap.size + 1) 23 #[.int .i64 b0, .int .i64 b1, .int .i64 b2]) := by show Blk _ _ _ _; rw [← hw0]; exact Blk.new' (by simp)
 have HE := Hdz hw0
 clear ha0 ha1 ha2 hb0 hb1 hb2 hap hw0
 go_enter Tryz.func5, Tryz.ntmps5
 go_upto_region 1 with fail
 rw [HE.out]
 go_wp2_with (fail)
 go_must (refine (begin19 _).mono ?_)
 rintro e w1 ⟨bb, p, rfl, hHb, hb1⟩
 have HB1 : Hid (Below w0.heap.size w0 w1) := hb1
 have HI := Hdz (hHb.hf.initAt (W' := w1.alloc (.cells #[.int .i64 2, .int .i64 4] 3)) ((Below.refl _ _).alloc (Nat.le_refl _) _) (some ⟨w1.heap.size, 0, none⟩) 2 2 [2, 4] (sl_rows 1 2 [.int .i64 2, .int .i64 4] (Blk.new _ _ _) rfl) rfl (fun b o e => .inr (by cases e; exact ⟨Nat.le_refl _, by simp⟩)) (validM_two (by omega) (by omega) (by omega)))
 clear hHb hb1
 go_wp2_with (fail)
 go_must (refine HI.out.mono ?_)
 rintro e w2 ⟨rfl, hk2, hkk2⟩
 have hz := hard0_len
 have hsn := snB_len (i := 0) (u := 0) (l := [2, 4]) ⟨by omega, by omega⟩ ⟨by omega, by omega⟩ (by simp) (validM_two (a := 2) (b := 4) (by omega) (by omega) (by omega)).i64
 have HB2 : Hid (Below w0.heap.size w0 w2) := HB1.out.trans (hkk2.base HB1.out.size fun k e => e)
 have x2 := HXa.out.below' HB2.out
 have z0 := x2.cell 0
 have z1 := x2.cell 1
 have z2 := x2.cell 2
 have HS := Hdz (Kn.saveAt (es := []) (n := 0) (b := 0) (more := []) hk2 (Below.refl _ _) (by omega) a0 a1 a2 true none none 0 0 7 (batchH HIa.out.1 HIa.out.2.1 HIa.out.2.2 ⟨by omega, by omega⟩) (Sl.nil _ _ _ _) rfl (fun b o e => by cases e) hz.1 hsn hz.2)
 clear hk2 hkk2 hz hsn x2
 go_wp2_with (fail)
 go_must (refine HS.out.mono ?_)
 rintro e w3 ⟨rfl, hk3, hkk3⟩
 have HB3 : Hid (Below w0.heap.size w0 w3) := HB2.out.trans (hkk3.base HB2.out.size fun k e => e)
 have x3 := HXb.out.below' HB3.out
 have z3 := x3.cell 0
 have z4 := x3.cell 1
 have z5 := x3.cell 2
 have hz : (varsB [a0, a1, a2]).length ≤ 200 ∧ (varsB [7]).length ≤ 200 := by
  have h1 := varsB_len [a0, a1, a2] (by
   intro v hv
   simp only [List.mem_cons, List.not_mem_nil, or_false] at hv
   rcases hv with rfl | rfl | rfl
   ·exact HIa.out.1
   ·exact HIa.out.2.1
   ·exact HIa.out.2.2)
  have h2 := varsB_len [7] (by intro v hv; simp at hv; subst hv; exact ⟨by omega, by omega⟩)
  simp only [List.length_cons, List.length_nil] at h1 h2
  exact ⟨by omega, by omega⟩
 have hsn := snB_len (i := 0) (u := 0) (l := [2, 4]) ⟨by omega, by omega⟩ ⟨by omega, by omega⟩ (by simp) (validM_two (a := 2) (b := 4) (by omega) (by omega) (by omega)).i64
 have hk3' : Kn (fun k => w0.heap.size ≤ k) bb 1005 (keptP (varsB [a0, a1, a2]) (snB 0 0 [2, 4]) (varsB [7])) (0, logP []) w3 := hk3
 have HS3 := Hdz (Kn.saveAt (es := []) (n := 0) (b := 0) (more := []) hk3' (Below.refl _ _) (by omega) b0 b1 b2 has none none 0 0 ap (batchH HIb.out.1 HIb.out.2.1 HIb.out.2.2 HIp.out) (Sl.nil _ _ _ _) rfl (fun b o e => by cases e) hz.1 hsn hz.2)
 clear hk3 hk3' hkk3 hz hsn x3 z0 z1 z2
 go_wp2_with (fail)
 go_must (refine HS3.out.mono ?_)
 rintro e w4 ⟨rfl, hk4, hkk4⟩
 have HB4 : Hid (Below w0.heap.size w0 w4) := HB3.out.trans (hkk4.base HB3.out.size fun k e => e)
 obtain ⟨x, y, z, c, hv1, hv2, hI1, hI2, hI3, hI4, hx, hy, hz, hc⟩ : ∃ x y z c : Int, hdV has b0 b1 b2 (varsB [a0, a1, a2]) = varsB [x, y, z] ∧ apV ap (varsB [7]) = varsB [c] ∧ I64 x ∧ I64 y ∧ I64 z ∧ I64 c ∧ x = (if has then b0 else a0) ∧ y = (if has then b1 else a1) ∧ z = (if has then b2 else a2) ∧ c = (if 0 < ap then ap else 7) := by
  cases has
  ·by_cases h0 : 0 < ap
   ·exact ⟨a0, a1, a2, ap, rfl, if_pos h0, HIa.out.1, HIa.out.2.1, HIa.out.2.2, HIp.out, rfl, rfl, rfl, (if_pos h0).symm⟩
   ·exact ⟨a0, a1, a2, 7, rfl, if_neg h0, HIa.out.1, HIa.out.2.1, HIa.out.2.2, ⟨by omega, by omega⟩, rfl, rfl, rfl, (if_neg h0).symm⟩
  ·by_cases h0 : 0 < ap
   ·exact ⟨b0, b1, b2, ap, rfl, if_pos h0, HIb.out.1, HIb.out.2.1, HIb.out.2.2, HIp.out, rfl, rfl, rfl, (if_pos h0).symm⟩
   ·exact ⟨b0, b1, b2, 7, rfl, if_neg h0, HIb.out.1, HIb.out.2.1, HIb.out.2.2, ⟨by omega, by omega⟩, rfl, rfl, rfl, (if_neg h0).symm⟩
 have HXY : Hid (x = (if has then b0 else a0) ∧ y = (if has then b1 else a1) ∧ z = (if has then b2 else a2)) := ⟨hx, hy, hz⟩
 have HC : Hid (c = (if 0 < ap then ap else 7)) := hc
 have hkept : Kept x y z 0 0 [2, 4] c [] := ⟨⟨hI1, hI2, hI3⟩, ⟨⟨by omega, by omega, by omega⟩, by omega, by omega, by omega⟩, validM_two (by omega) (by omega) (by omega), hI4, ⟨(fun o h => by cases h), by simp⟩, trivial⟩
 rw [hv1, hv2] at hk4
 have HL := Hdz (Kn.load (i := 0) (u := 0) (l := [2, 4]) (es := []) (n := 0) hk4 (by omega) hkept)
 clear hk4 hkk4 hv1 hv2 hI1 hI2 hI3 hI4 hx hy hz hc hkept z3 z4 z5
 go_wp2_with (fail)
 go_must (refine HL.out.mono ?_)
 rintro e w5 ⟨v5, v6, rfl, ho5, ho6, hb5⟩
 obtain ⟨A5, c5, rfl, -⟩ := Sl.of_own ho5
 obtain ⟨A6, c6, rfl, -⟩ := Sl.of_own ho6
 have HB5 : Hid (Below w0.heap.size w0 w5) := HB4.out.trans (hb5.mono HB4.out.size)
 have xa := HXa.out.below' HB5.out
 have z0 : w5.cell? ⟨w.heap.size, 0, none⟩ = some (.int .i64 a0) := xa.cell 0
 have z1 : w5.cell? ⟨w.heap.size, 1, none⟩ = some (.int .i64 a1) := xa.cell 1
 have z2 : w5.cell? ⟨w.heap.size, 2, none⟩ = some (.int .i64 a2) := xa.cell 2
 have hlt : w.heap.size + 1 < w5.heap.size := (HXb.out.below' HB5.out).lt
 have HLt := Hdz hlt
 have hlt0 : w.heap.size < w5.heap.size := by omega
 clear ho5 ho6 hb5 xa
 simp only [List.length_cons, List.length_nil] at *
 go_upto_if 47 with fail
 go_cut [] from 46 to 49 (fun wx => Hid (Blk wx w5.heap.size 56 #[.int .i64 x, .int .i64 y, .int .i64 z, .int .i64 0, .int .i64 0, .slice A5 2 c5, .slice A6 0 c6, .int .i64 c]) ∧ Hid (Blk wx (w5.heap.size + 1) 23 #[.int .i64 x, .int .i64 y, .int .i64 z]) ∧ Hid (Below w0.heap.size w0 wx))
 case first =>
  have b1 : Blk ((w5.alloc (.cells #[.int .i64 x, .int .i64 y, .int .i64 z, .int .i64 0, .int .i64 0, .slice A5 2 c5, .slice A6 0 c6, .int .i64 c] 56)).alloc (.cells #[.int .i64 a0, .int .i64 a1, .int .i64 a2] 23)) w5.heap.size 56 #[.int .i64 x, .int .i64 y, .int .i64 z, .int .i64 0, .int .i64 0, .slice A5 2 c5, .slice A6 0 c6, .int .i64 c] := (Blk.new _ _ _).alloc _
  have b2 : Blk ((w5.alloc (.cells #[.int .i64 x, .int .i64 y, .int .i64 z, .int .i64 0, .int .i64 0, .slice A5 2 c5, .slice A6 0 c6, .int .i64 c] 56)).alloc (.cells #[.int .i64 a0, .int .i64 a1, .int .i64 a2] 23)) (w5.heap.size + 1) 23 #[.int .i64 a0, .int .i64 a1, .int .i64 a2] := Blk.new' (by simp)
  have hbb : Below w0.heap.size w0 ((w5.alloc (.cells #[.int .i64 x, .int .i64 y, .int .i64 z, .int .i64 0, .int .i64 0, .slice A5 2 c5, .slice A6 0 c6, .int .i64 c] 56)).alloc (.cells #[.int .i64 a0, .int .i64 a1, .int .i64 a2] 23)) := (HB5.out.alloc HB5.out.size _).alloc (by have := HB5.out.size; simp; omega) _
  have HBB := Hdz hbb
  have HB1' := Hdz b1
  have HB2' := Hdz b2
  have f0 := b2.frozen 0
  have f1 := b2.frozen 1
  have f2 := b2.frozen 2
  have y0 := b2.cell 0
  have y1 := b2.cell 1
  have y2 := b2.cell 2
  have xb := ((HXb.out.below' HB5.out).alloc (.cells #[.int .i64 x, .int .i64 y, .int .i64 z, .int .i64 0, .int .i64 0, .slice A5 2 c5, .slice A6 0 c6, .int .i64 c] 56)).alloc (.cells #[.int .i64 a0, .int .i64 a1, .int .i64 a2] 23)
  have q0 := xb.cell 0
  have q1 := xb.cell 1
  have q2 := xb.cell 2
  clear b1 b2 hbb xb
  cases has
  ·obtain ⟨rfl, rfl, rfl⟩ := HXY.out
   go_wp2_with (fail)
   go_meet
   exact ⟨HB1'.out, HB2'.out, HBB.out⟩
  ·obtain ⟨rfl, rfl, rfl⟩ := HXY.out
   go_wp2_with (fail)
   go_meet
   exact ⟨(Blk.new _ _ _).alloc _, Blk.new' (by simp), (HB5.out.alloc HB5.out.size _).alloc (by have := HB5.out.size; simp; omega) _⟩
 case rest =>
 obtain ⟨HY1, HY2, HB6⟩ := hcut
 obtain ⟨w6, rfl⟩ : ∃ we, we = wc := ⟨_, rfl⟩
 clear z0 z1 z2
 go_upto_if 50 with fail
 go_cut [14] from 46 to 52 (fun s14 wx => s14 = .int .i64 c ∧ wx = w6)
 case first =>
  by_cases h0 : 0 < ap
  ·have h1 : ap > 0 := h0
   have hc := HC.out
   rw [if_pos h0] at hc
   subst hc
   go_wp2_with (fail)
   go_meet
   exact ⟨rfl, rfl⟩
  ·have h1 : ¬ ap > 0 := h0
   have hc := HC.out
   rw [if_neg h0] at hc
   subst hc
   go_wp2_with (fail)
   go_meet
   exact ⟨rfl, rfl⟩
 case rest =>
 obtain ⟨rfl, rfl⟩ := hcut
 obtain ⟨w6, rfl⟩ : ∃ we, we = wc := ⟨_, rfl⟩
 go_wp2_with (fail)
 go_must (refine (HAl.out _).mono ?_)
 rintro e w7 ⟨rfl, hb7⟩
 have y1 := HY1.out.below' hb7
 have y2 := HY2.out.below' hb7
 have z0 := y1.cell 0
 have z1 := y1.cell 1
 have z2 := y1.cell 2
 have z3 := y1.cell 3
 have z5 := y1.cell 5
 have z7 := y1.cell 7
 have q0 := y2.cell 0
 have q1 := y2.cell 1
 have q2 := y2.cell 2
 have HB7 : Hid (Below w.heap.size w w7) := HB0.out.trans ((HB6.out.trans (hb7.mono HB6.out.size)).mono HB0.out.size)
 clear hb7 y1 y2
 go_wp2_with (fail)
 go_ret
 exact ⟨rfl, HB7.out⟩
end Go.Ev
namespace Go.Proofs.YtmfoiaaehkandaaGreatDoor
open Go.ChangeShapes Go.WideShapes Go.ChangeAt Go.RowKit
theorem ownKeepHard : ownKnob Tryz.prog.godebug = none := by kernel_rfl
set_option maxRecDepth 100000 in
theorem keepHard_lifted (os : Os) (started : os.Started) (H : Type) (enc : TypeId × Value → H) :
  ReturnsInHanded {} Tryz.checked os 5 .any (fun w args => (Rows.keepHardSpec.pre enc Tryz.prog Tryz.f5 [] false w args ∧ laidMetH Tryz.prog Rows.keepHardRow.laid w) ∧ sizedMet enc Tryz.prog Tryz.f5 (OpenSpec.ofChange Rows.keepHardSpec) false w args)
   (Rows.keepHardSpec.post enc Tryz.prog Tryz.f5 false true false false) := by
 refine returnsInHanded_of_change_and (C := Tryz.checked) (X := fun w _ => laidMetH Tryz.prog Rows.keepHardRow.laid w) (fun _ _ _ hh h => h.of_heap hh) ownKeepHard started (by kernel_rfl) Tryz.func5
  (ChangeSpec.witness_shaped (enc := enc) (C := Tryz.checked) (os := os) (X := fun w _ => laidMetH Tryz.prog Rows.keepHardRow.laid w) false (World.laidAll Tryz.prog os Rows.keepHardRow.laid) #[.agg #[.int .i64 0, .int .i64 0, .int .i64 0], .agg #[.int .i64 0, .int .i64 0, .int .i64 0], .bool false, .int .i64 0] 8 (World.laidAll_os _ _ _)
   (World.shaped_of_ZipB (by kernel_rfl) (by kernel_rfl)) (by kernel_rfl) (by kernel_rfl) (by kernel_rfl)
   (by rw [MakeChecks.laidMetH_plain _ _ _ (by kernel_rfl)]; exact laidMet_laidAll _ (by kernel_rfl) (by kernel_rfl))) ?_
 intro W base args ds gs before hval0 hW _ _ hL _
 have hval : ∀ (j : Nat) t v, Tryz.f5.params[j]? = some t → args[j]? = some v → Value.okWide Tryz.prog W .any base t v := hval0
 have hW' := hW
 obtain ⟨p, q, hA0, hV, rfl, _, _⟩ := hW
 have hA : DataW.TrodAll enc Tryz.prog W 0 (fun _ => true) true Tryz.f5.params.toList args.toList ds p := hA0
 rw [Tryz.params5] at hA hval
 obtain ⟨v0, vs0, d0, ds0, p0, r0, hargs, rfl, rfl, h0, hr0⟩ := trodAll_cons hA
 obtain ⟨v1, vs1, d1, ds1, p1, r1, rfl, rfl, rfl, h1, hr1⟩ := trodAll_cons hr0
 obtain ⟨v2, vs2, d2, ds2, p2, r2, rfl, rfl, rfl, h2, hr2⟩ := trodAll_cons hr1
 obtain ⟨v3, vs3, d3, ds3, p3, r3, rfl, rfl, rfl, h3, hr3⟩ := trodAll_cons hr2
 obtain ⟨rfl, rfl, rfl⟩ := trodAll_nil hr3
 obtain rfl : args = #[v0, v1, v2, v3] := by cases args; simp_all
 clear hargs hr0 hr1 hr2 hr3
 obtain ⟨rfl, rfl⟩ := trodVars_none hV
 obtain ⟨x0, y0, z0, rfl, rfl, hx0, hy0, hz0, hsame0⟩ := Ev.open_hard (by kernel_rfl) (hval 0 23 v0 rfl rfl) h0
 obtain ⟨x1, y1, z1, rfl, rfl, hx1, hy1, hz1, hsame1⟩ := Ev.open_hard (by kernel_rfl) (hval 1 23 v1 rfl rfl) h1
 obtain ⟨t2, rfl, rfl, rfl⟩ := open_bool Tryz.underlying4 (hval 2 4 v2 rfl rfl) h2
 obtain ⟨m3, rfl, rfl, rfl, hm3⟩ := open_int Tryz.underlying3 (hval 3 3 v3 rfl rfl) h3
 simp only [List.append_nil, List.nil_append] at hW'
 have hcall := Ev.hard_walk x0 y0 z0 x1 y1 z1 t2 m3 W (Ev.i64_wfE hx0) (Ev.i64_wfE hy0) (Ev.i64_wfE hz0) (Ev.i64_wfE hx1) (Ev.i64_wfE hy1) (Ev.i64_wfE hz1) (Ev.i64_wfE hm3)
 refine hcall.mono fun e W' ⟨hret, hw⟩ => ?_
 subst hret
 exact ⟨_, rfl, _, _, _, [], [], [], hW', trodAll_mk1 (shut_bool Tryz.underlying4 true), (by exact trodAll_cons_mk (hsame0 _ _ _ _) (trodAll_cons_mk (hsame1 _ _ _ _) (trodAll_cons_mk (shut_bool Tryz.underlying4 t2) (trodAll_mk1 (shut_int Tryz.underlying3 hm3))))), rfl, hw.frame _, fun h => by cases h⟩
end Go.Proofs.YtmfoiaaehkandaaGreatDoor
namespace Go.Proofs.YtmfoiaaehkandaaGreatDoor
open Go.ChangeShapes Go.WideShapes Go.ChangeAt Go.RowKit
set_option maxHeartbeats 40000000 in
theorem keepHard_facts : joinedFacts Tryz.prog 5 Tryz.f5 Rows.keepHardSpec Rows.keepHardRow = true := by kernel_rfl
set_option maxHeartbeats 40000000 in
theorem keepHard_row : Rows.KeepHardSaid :=
 OpenClaim.holds_of_wide 5 Tryz.f5 rfl rfl rfl rfl rfl rfl rfl ⟨rfl, rfl, rfl, rfl, rfl⟩ rfl rfl rfl rfl rfl (by as_aux_lemma => kernel_rfl) Tryz.func5 keepHard_facts
  (of_decide_eq_true (by as_aux_lemma => kernel_rfl)) (by unfold Func.isWrapper; first | (rw [if_pos (by decide +kernel)]; kernel_rfl) | (rw [if_neg (by decide +kernel)]; exact ⟨rfl, rfl⟩))
  (fun os started H enc _ => keepHard_lifted os started H enc)
set_option maxHeartbeats 40000000 in
theorem keepHard_holds : Rows.KeepHardCardSaid :=
 Claim7.holds_tied_plain_at .later [] [.data, .pinned] true (true, "7fe17c42c0e49ccfca31a765acb9a0d2e44b8c2aa015a748bce073b15958d515") true keepHard_row (fun _ h => by cases h) (by as_aux_lemma => kernel_rfl) (fun _ h => by cases h) keepHard_row_tie rfl ⟨rfl, rfl⟩ (by as_aux_lemma => kernel_rfl) rfl
  (fun f fn hf hfn => by
   obtain rfl : f = 5 := Option.some.inj ((show Tryz.prog.funcNamed "arboretum/arboretumlaw19.KeepHard" = some 5 by as_aux_lemma => kernel_rfl).symm.trans hf) |>.symm
   obtain rfl : fn = Tryz.f5 := (Option.some.inj (Tryz.func5.symm.trans hfn)).symm
   exact ⟨by as_aux_lemma => kernel_rfl, fun j t ht => by
    rw [Tryz.params5] at ht
    have hm : t ∈ [23, 23, 4, 3] := by simpa using Array.mem_of_getElem? ht
    have hall : ([23, 23, 4, 3].all fun u => !Tryz.prog.wantsStandIn u) = true := by as_aux_lemma => kernel_rfl
    exact (show Tryz.prog.wantsStandIn t = false by simpa using List.all_eq_true.1 hall t hm)⟩)
  (by as_aux_lemma => kernel_rfl)
#print axioms keepHard_holds
end Go.Proofs.YtmfoiaaehkandaaGreatDoor
