/-
  Texts of this claim.
-/
import Derived.Test.YtjdimpnonjjnaaaGreatDoorMGwSess5
set_option linter.unusedVariables false
set_option linter.unusedSimpArgs false
set_option maxHeartbeats 8000000
set_option maxRecDepth 100000
namespace Go.Ev
open Go.Proofs Go.RowKit
def Begin19P (w : World) (e : Ending) (w' : World) : Prop := ∃ bb p, e = .returned (.tuple #[ptrV bb, .bool true]) ∧ Hb w.heap.size p bb 3000 0 [] w' ∧ Below w.heap.size w w'
theorem begin19 (w : World) : Calls Tryz.prog 12 #[] w (Begin19P w) := by
 go_enter Tryz.func12, Tryz.ntmps12
 go_wp2_with (fail)
 go_must (refine (begin_any w).mono ?_)
 rintro e w1 ⟨d, f, p, pc, root, rfl, hp, hs, hb1⟩
 have HO := Hdz (hp.opened hs hb1.size)
 have HB1 := Hdz hb1
 clear hp hs hb1
 go_wp2_with (fail)
 go_must (refine (open_ok p root w1).mono ?_)
 rintro e w2 ⟨rfl, rfl⟩
 have HB2 := Hdz (HB1.out.trans (((Below.refl w1.heap.size w1).alloc (Nat.le_refl _) (.cells #[ptrV p, .int .i64 root, .int .i64 0] 89)).mono HB1.out.size))
 obtain ⟨bb, hbb⟩ := nmz (w1.heap.size)
 rw [hbb] at HO ⊢
 obtain ⟨w2, hw2⟩ := nmz (w1.alloc (.cells #[ptrV p, .int .i64 root, .int .i64 0] 89))
 rw [hw2] at HO HB2 ⊢
 clear hw2 hbb HB1
 go_wp2_with (fail)
 refine bodyPost_ret (v := .tuple #[ptrV bb, .bool true]) (by simp [results, Tryz.results12, go_sem]) rfl ?_
 exact ⟨bb, p, rfl, HO.out, HB2.out⟩
theorem made_sd {rn' : Nat} {L' : List Bk} (h : MadesB [] 0 [sessK, dataK] rn' L') : rn' = 2 ∧ ∃ r1 r2, L' = [⟨dataK, ⟨r2, [], [r2], 0⟩⟩, ⟨sessK, ⟨r1, [], [r1], 0⟩⟩] := by
 obtain ⟨rn1, L1, h1, h2⟩ := MadesB.snoc_inv (ns := [sessK]) (nm := dataK) h
 obtain ⟨rn0, L0, h0, h1⟩ := MadesB.snoc_inv (ns := []) (nm := sessK) h1
 obtain ⟨rfl, rfl⟩ := h0.nil_inv
 rcases h1 with ⟨h1, _⟩ | ⟨_, r, rfl, rfl⟩
 ·exact absurd rfl h1
 ·rcases h2 with ⟨h2, _⟩ | ⟨_, r2, rfl, rfl⟩
  ·exact absurd (by simp [getB, insB, sessK, dataK]) h2
  ·exact ⟨rfl, r, r2, by simp [insB, sessK, dataK, lessB, Op.bytesLess]⟩
def Begin24P (w : World) (e : Ending) (w' : World) : Prop := ∃ bb u, e = .returned (.tuple #[ptrV bb, u, .bool true]) ∧ Sn (0, []) (fun k => w.heap.size ≤ k) bb 2 0 [] w' ∧ w'.ownsRow w.heap.size 79 2 u 2 [strV dataK, .slice none 0 0, strV sessK, .slice none 0 0] ∧ Below w.heap.size w w'
theorem sn_new {B bb p : Nat} {L' : List Bk} {rn' : Nat} {W : World} (h : Hb B p bb 3000 rn' L' W) (hm : MadesB [] 0 [sessK, dataK] rn' L') : Sn (0, []) (fun k => B ≤ k) bb 2 0 [] W := by
 obtain ⟨rfl, r1, r2, rfl⟩ := made_sd hm
 exact ⟨⟨p, 2, ⟨r2, [], [r2], 0⟩, ⟨r1, [], [r1], 0⟩, h.hf, rfl, rfl, Nat.le_refl _, Nat.zero_le _, Nat.zero_le _, Nat.zero_le _⟩, ⟨fun x hx => (by cases hx), List.Pairwise.nil, by omega⟩, fun x hx => (by cases hx), by simp, by simp [ndN, sumV]⟩
theorem begin24 (w : World) : Calls Tryz.prog 6 #[] w (Begin24P w) := by
 go_enter Tryz.func6, Tryz.ntmps6
 go_wp2_with (fail)
 go_must (refine (begin19 w).mono ?_)
 rintro e w1 ⟨bb, p, rfl, hH, hb1⟩
 have hrow := sl_new w1 [strV sessK, strV dataK] 9
 have HM := Hdz (hH.make ((Below.refl _ _).alloc (Nat.le_refl _) _) w1.heap.size (Nat.le_refl _) 0 2 2 [sessK, dataK] hrow (by decide) (by omega) (by decide) (fun k rn' L' hm => hm.roomyTake (i := 0) ⟨by simp, by omega, fun b hb => (by cases hb)⟩ (by simp)))
 have HB1 := Hdz (hb1.alloc hb1.size (.cells #[strV sessK, strV dataK] 9))
 clear hH hb1 hrow
 go_wp2_with (fail)
 go_must (refine HM.out.mono ?_)
 rintro e w2 ⟨rn2, L2, rfl, hQ, hH, hb2⟩
 have HS := Hdz (sn_new hH hQ)
 have HB2 := Hdz (HB1.out.trans hb2)
 clear hQ hH hb2
 go_wp2_with (fail)
 go_must (refine (makeR_nil sessK w2 (by decide) (by decide)).mono ?_)
 rintro e w3 ⟨u, rfl, hu, hb3⟩
 have HS3 := Hdz (HS.out.below hb3)
 have HB3 := Hdz (HB2.out.trans (hb3.mono HB2.out.size))
 obtain ⟨A, c, rfl, -⟩ := Sl.of_own hu
 have HU := Hdz hu
 clear hu hb3
 go_wp2_with (fail)
 go_must (refine (makeR_one w2.heap.size sessK dataK _ w3 HU.out (by decide) (by decide) (by decide) (by decide) (by decide)).mono ?_)
 rintro e w4 ⟨v, rfl, hv, hb4⟩
 have HS4 := Hdz (HS3.out.below hb4)
 have HB4 := Hdz (HB3.out.trans (hb4.mono HB3.out.size))
 obtain ⟨A4, c4, rfl, -⟩ := Sl.of_own hv
 have HV := Hdz (own_base hv HB3.out.size)
 clear hv hb4
 go_wp2_with (fail)
 refine bodyPost_ret (v := .tuple #[ptrV bb, .slice A4 2 c4, .bool true]) (by simp [results, Tryz.results6, go_sem]) rfl ?_
 exact ⟨bb, _, rfl, HS4.out, HV.out, HB4.out⟩
theorem alive24 (w : World) : Calls Tryz.prog 5 #[] w (TrueB w) := by
 have i64' : ∀ k : Int, -1000 ≤ k → k ≤ 2000 → I64 k := fun k h1 h2 => by unfold I64; omega
 go_enter Tryz.func5, Tryz.ntmps5
 go_wp2_with (fail)
 go_must (refine (begin24 w).mono ?_)
 rintro e w1 ⟨bb, u, rfl, hS, hu, hb1⟩
 obtain ⟨A, c, rfl, -⟩ := Sl.of_own hu
 have HR := Hdz (hS.register (by omega) 7 (i64' 7 (by omega) (by omega)) (by omega))
 have HB1 := Hdz hb1
 clear hS hu hb1
 go_wp2_with (fail)
 go_must (refine HR.out.mono ?_)
 rintro e w2 ⟨rfl, hS, hb2⟩
 have hreg : regS 0 7 [] = [(1, ⟨7, 0, 0, 0, []⟩)] := by simp [regS, dropS]
 rw [hreg] at hS
 have HS2 := Hdz hS
 have HB2 := Hdz (HB1.out.trans (hb2.base HB1.out.size fun k e => e))
 clear hS hb2 hreg
 have e01 : (((0 + 1 : Nat) : Nat) : Int) = 1 := by omega
 rw [e01]
 go_wp2_with (fail)
 obtain ⟨w3, hw3⟩ := nmz (w2.alloc (.cells #[.int .i64 0, strV [118], .int .i64 0] 32))
 have hba : Below w2.heap.size w2 w3 := by rw [← hw3]; exact (Below.refl _ _).alloc (Nat.le_refl _) _
 have hz3 : w3.heap.size = w2.heap.size + 1 := by rw [← hw3]; simp
 have b6 : Blk w3 w2.heap.size 32 #[.int .i64 0, strV [118], .int .i64 0] := by rw [← hw3]; exact Blk.new _ _ _
 obtain ⟨g6, hg6⟩ := nmz (w2.heap.size)
 have hS3 : Sn (0, []) (fun k => w.heap.size ≤ k ∧ k ≠ g6) bb (2 + 3) (0 + 1) [(1, ⟨7, 0, 0, 0, []⟩)] w3 := HS2.out.fence (G := fun _ => False) (Keeps.of_below hba) (fun _ _ _ e => e) (fun k hk e => ⟨e, by omega⟩) fun k hk => ⟨by have := HB2.out.size; omega, by omega⟩
 have HB3 := Hdz (HB2.out.trans (hba.mono HB2.out.size))
 rw [hg6] at b6
 have H6 := Hdz b6
 rw [hw3, hg6]
 have HSv := Hdz (hS3.saveNew (x := ⟨7, 0, 0, 0, []⟩) (by omega) 1 (by omega) (by omega) 1 ⟨0, 0, 0, 0, [118]⟩ (by simp [getS]) (by show (0 : Int) < 1; omega) (by omega) (i64' 1 (by omega) (by omega)) ⟨i64' 0 (by omega) (by omega), i64' 0 (by omega) (by omega), i64' 0 (by omega) (by omega), i64' 0 (by omega) (by omega), by simp⟩ (by simp))
 clear hw3 hg6 hba b6 hz3 hS3
 go_must (refine HSv.out.mono ?_)
 rintro e w4 ⟨rfl, hS, hk4⟩
 have hset : setS 1 (newS ⟨7, 0, 0, 0, []⟩ ⟨0, 0, 0, 0, [118]⟩ 1) [(1, ⟨7, 0, 0, 0, []⟩)] = [(1, ⟨7, 1, 0, 0, [118]⟩)] := by simp [setS, newS]
 rw [hset] at hS
 have hL1 : lookS [(1, ⟨7, 1, 0, 0, [118]⟩)] 1 = some ⟨7, 1, 0, 0, [118]⟩ := by simp [lookS, getS]
 have hL2 : lookS [(1, ⟨7, 1, 0, 0, [118]⟩)] 2 = none := by simp [lookS, getS]
 have HLk := Hdz (Anz hL1 hL2)
 have HS4 := Hdz hS
 have HB4 := Hdz (HB3.out.trans (hk4.base HB3.out.size fun k e => e.1))
 have b6 := H6.out.keeps hk4 fun e => e.2 rfl
 have H64 := Hdz b6
 have HL := Hdz (HS4.out.lookOld (by omega) 1 1 hL1 rfl (by omega))
 clear hS hk4 hset b6 hL1 hL2
 go_wp2_with (fail)
 go_must (refine HL.out.mono ?_)
 rintro e w5 ⟨rfl, hb5⟩
 have hb5a : Below w4.heap.size w4 (w5.alloc (.cells #[.int .i64 0, strV [118], .int .i64 0] 32)) := hb5.alloc hb5.size _
 have HS5 := Hdz (HS4.out.below hb5a)
 have HB5 := Hdz (HB4.out.trans (hb5a.mono HB4.out.size))
 have H65 := Hdz (H64.out.below' hb5a)
 obtain ⟨g8, hg8⟩ := nmz (w5.heap.size)
 have b8 : Blk (w5.alloc (.cells #[.int .i64 0, strV [118], .int .i64 0] 32)) g8 32 #[.int .i64 0, strV [118], .int .i64 0] := by rw [← hg8]; exact Blk.new _ _ _
 obtain ⟨u5, hu5⟩ := nmz (w5.alloc (.cells #[.int .i64 0, strV [118], .int .i64 0] 32))
 rw [hu5] at HS5 HB5 H65 b8
 have H85 := Hdz b8
 have HL := Hdz (HS5.out.lookStale1 (by omega) 1 0 HLk.out.1 (by show (0 : Int) < 1; omega))
 have HU5 := Hdz (Anz hu5 hg8)
 clear hb5 hb5a b8 hu5 hg8
 go_wp2_with (fail)
 rw [HU5.out.1, HU5.out.2]
 clear HU5
 go_must (refine HL.out.mono ?_)
 rintro e w6 ⟨rfl, hb6⟩
 have hb6a : Below u5.heap.size u5 (w6.alloc (.cells #[.int .i64 0, strV [], .int .i64 0] 32)) := hb6.alloc hb6.size _
 have HS6 := Hdz (HS5.out.below hb6a)
 have HB6 := Hdz (HB5.out.trans (hb6a.mono HB5.out.size))
 have H66 := Hdz (H65.out.below' hb6a)
 have H86 := Hdz (H85.out.below' hb6a)
 have HL := Hdz (HS6.out.lookNew (by omega) 1 2 HLk.out.1 (by show (1 : Int) < 2; omega) (by omega))
 clear hb6 hb6a
 go_wp2_with (fail)
 go_must (refine HL.out.mono ?_)
 rintro e w7 ⟨rfl, hb7⟩
 have hb7a := hb7.alloc hb7.size (.cells #[.int .i64 0, strV [], .int .i64 0] 32)
 have HS7 := Hdz (HS6.out.below hb7a)
 have HB7 := Hdz (HB6.out.trans (hb7a.mono HB6.out.size))
 have H67 := Hdz (H66.out.below' hb7a)
 have H87 := Hdz (H86.out.below' hb7a)
 have HL := Hdz (HS7.out.lookNo (by omega) 2 1 HLk.out.2)
 clear hb7 hb7a
 go_wp2_with (fail)
 go_must (refine HL.out.mono ?_)
 rintro e w8 ⟨rfl, hb8⟩
 have hb8a := hb8.alloc hb8.size (.cells #[.int .i64 0, strV [], .int .i64 0] 32)
 have HB8 := Hdz (HB7.out.trans (hb8a.mono HB7.out.size))
 have b6 := H67.out.below' hb8a
 have b8 := H87.out.below' hb8a
 have x0 := b6.cell 0
 have x1 := b6.cell 1
 have x2 := b6.cell 2
 have y0 := b8.cell 0
 have y1 := b8.cell 1
 have y2 := b8.cell 2
 clear hb8 hb8a b6 b8
 go_wp2_with (fail)
 go_ret
 exact ⟨rfl, HB8.out⟩
end Go.Ev
