/-
  Texts of this claim.
-/
import Derived.Test.YtmnniabfbelpbaaGreatDoorMGwKv5S
set_option linter.unusedVariables false
set_option linter.unusedSimpArgs false
set_option maxHeartbeats 4000000
set_option maxRecDepth 100000
namespace Go.Ev
open Go.Proofs Go.RowKit
def Begin19P (w : World) (e : Ending) (w' : World) : Prop := ∃ bb p, e = .returned (.tuple #[ptrV bb, .bool true]) ∧ Hb w.heap.size p bb 3000 0 [] w' ∧ Below w.heap.size w w'
theorem begin19 (w : World) : Calls Tryz.prog 14 #[] w (Begin19P w) := by
 go_enter Tryz.func14, Tryz.ntmps14
 go_wp2_with (fail)
 go_must (refine (begin_any w).mono ?_)
 rintro e w1 ⟨d, f, p, pc, root, rfl, hp, hs, hb1⟩
 have HO := Hdz (hp.opened hs hb1.size)
 have HB1 := Hdz hb1
 clear hp hs hb1
 go_wp2_with (fail)
 go_must (refine (open_ok p root w1).mono ?_)
 rintro e w2 ⟨rfl, rfl⟩
 have HB2 := Hdz (HB1.out.trans (((Below.refl w1.heap.size w1).alloc (Nat.le_refl _) (.cells #[ptrV p, .int .i64 root, .int .i64 0] 62)).mono HB1.out.size))
 obtain ⟨bb, hbb⟩ := nmz (w1.heap.size)
 rw [hbb] at HO ⊢
 obtain ⟨w2, hw2⟩ := nmz (w1.alloc (.cells #[ptrV p, .int .i64 root, .int .i64 0] 62))
 rw [hw2] at HO HB2 ⊢
 clear hw2 hbb HB1
 go_wp2_with (fail)
 refine bodyPost_ret (v := .tuple #[ptrV bb, .bool true]) (by simp [results, Tryz.results14, go_sem]) rfl ?_
 exact ⟨bb, p, rfl, HO.out, HB2.out⟩
theorem made_ds {rn' : Nat} {L' : List Bk} (h : MadesB [] 0 [dataK, sessK] rn' L') : rn' = 2 ∧ ∃ r1 r2, L' = [⟨dataK, ⟨r2, [], [r2], 0⟩⟩, ⟨sessK, ⟨r1, [], [r1], 0⟩⟩] := by
 obtain ⟨rn1, L1, h1, h2⟩ := MadesB.snoc_inv (ns := [dataK]) (nm := sessK) h
 obtain ⟨rn0, L0, h0, h1⟩ := MadesB.snoc_inv (ns := []) (nm := dataK) h1
 obtain ⟨rfl, rfl⟩ := h0.nil_inv
 rcases h1 with ⟨h1, _⟩ | ⟨_, r, rfl, rfl⟩
 ·exact absurd rfl h1
 ·rcases h2 with ⟨h2, _⟩ | ⟨_, r2, rfl, rfl⟩
  ·exact absurd (by simp [getB, insB, sessK, dataK]) h2
  ·exact ⟨rfl, r2, r, by simp [insB, sessK, dataK, lessB, Op.bytesLess]⟩
theorem sn_new' {B bb p : Nat} {L' : List Bk} {rn' : Nat} {W : World} (h : Hb B p bb 3000 rn' L' W) (hm : MadesB [] 0 [dataK, sessK] rn' L') : Sn (0, []) (fun k => B ≤ k) bb 2 0 [] W := by
 obtain ⟨rfl, r1, r2, rfl⟩ := made_ds hm
 exact ⟨⟨p, 2, ⟨r2, [], [r2], 0⟩, ⟨r1, [], [r1], 0⟩, h.hf, rfl, rfl, Nat.le_refl _, Nat.zero_le _, Nat.zero_le _, Nat.zero_le _⟩, ⟨fun x hx => (by cases hx), List.Pairwise.nil, by omega⟩, fun x hx => (by cases hx), by simp, by simp [ndN, sumV]⟩
def InitP (B bb : Nat) (w : World) (e : Ending) (w' : World) : Prop := e = .returned (.int .i64 0) ∧ Sn (0, []) (fun k => B ≤ k) bb 2 0 [] w' ∧ Below B w w'
theorem init_ok {B p bb : Nat} {w1 : World} (hH : Hb B p bb 3000 0 [] w1) (hB : B ≤ w1.heap.size) : Calls Tryz.prog 15 #[ptrV bb] w1 (InitP B bb w1) := by
 have hrow := sl_new w1 [strV dataK, strV sessK] 9
 have HM := Hdz (hH.make ((Below.refl _ _).alloc (Nat.le_refl _) _) w1.heap.size (Nat.le_refl _) 0 2 2 [dataK, sessK] hrow (by decide) (by omega) (by decide) (fun k rn' L' hm => hm.roomyTake (i := 0) ⟨by simp, by omega, fun b hb => (by cases hb)⟩ (by simp)))
 have HB1 := Hdz ((Below.refl B w1).alloc hB (.cells #[strV dataK, strV sessK] 9))
 clear hH hrow
 go_enter Tryz.func15, Tryz.ntmps15
 go_wp2_with (fail)
 go_must (refine HM.out.mono ?_)
 rintro e w2 ⟨rn2, L2, rfl, hQ, hH, hb2⟩
 have HS := Hdz (sn_new' hH hQ)
 have HB2 := Hdz (HB1.out.trans hb2)
 clear hQ hH hb2
 go_wp2_with (fail)
 refine bodyPost_ret (v := .int .i64 0) (by simp [results, Tryz.results15, go_sem]) rfl ?_
 exact ⟨rfl, HS.out, HB2.out⟩
def Begin25P (w : World) (e : Ending) (w' : World) : Prop := ∃ bb u, e = .returned (.tuple #[ptrV bb, u, .bool true]) ∧ Sn (0, []) (fun k => w.heap.size ≤ k) bb 2 0 [] w' ∧ w'.ownsRow w.heap.size 78 2 u 2 [strV dataK, .slice none 0 0, strV sessK, .slice none 0 0] ∧ Below w.heap.size w w'
theorem begin25 (w : World) : Calls Tryz.prog 8 #[] w (Begin25P w) := by
 go_enter Tryz.func8, Tryz.ntmps8
 go_wp2_with (fail)
 go_must (refine (begin19 w).mono ?_)
 rintro e w1 ⟨bb, p, rfl, hH, hb1⟩
 have HM := Hdz (init_ok hH hb1.size)
 have HB1 := Hdz hb1
 clear hH hb1
 go_wp2_with (fail)
 go_must (refine HM.out.mono ?_)
 rintro e w2 ⟨rfl, hS, hb2⟩
 have HS := Hdz hS
 have HB2 := Hdz (HB1.out.trans hb2)
 clear hS hb2
 go_wp2_with (fail)
 go_must (refine (makeR_nil dataK w2 (by decide) (by decide)).mono ?_)
 rintro e w3 ⟨u, rfl, hu, hb3⟩
 have HS3 := Hdz (HS.out.below hb3)
 have HB3 := Hdz (HB2.out.trans (hb3.mono HB2.out.size))
 obtain ⟨A, c, rfl, -⟩ := Sl.of_own hu
 have HU := Hdz hu
 clear hu hb3
 go_wp2_with (fail)
 go_must (refine (makeR_end w2.heap.size dataK sessK _ w3 HU.out (by decide) (by decide) (by decide) (by decide)).mono ?_)
 rintro e w4 ⟨v, rfl, hv, hb4⟩
 have HS4 := Hdz (HS3.out.below hb4)
 have HB4 := Hdz (HB3.out.trans (hb4.mono HB3.out.size))
 obtain ⟨A4, c4, rfl, -⟩ := Sl.of_own hv
 have HV := Hdz (own_base hv HB3.out.size)
 clear hv hb4
 go_wp2_with (fail)
 refine bodyPost_ret (v := .tuple #[ptrV bb, .slice A4 2 c4, .bool true]) (by simp [results, Tryz.results8, go_sem]) rfl ?_
 exact ⟨bb, _, rfl, HS4.out, HV.out, HB4.out⟩
end Go.Ev
