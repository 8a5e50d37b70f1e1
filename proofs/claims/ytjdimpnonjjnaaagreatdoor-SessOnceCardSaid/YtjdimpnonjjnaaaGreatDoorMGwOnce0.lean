/-
  Texts of this claim.
-/
import Derived.Test.YtjdimpnonjjnaaaGreatDoorMGwSess5
set_option linter.unusedVariables false
set_option linter.unusedSimpArgs false
set_option maxHeartbeats 8000000
set_option maxRecDepth 100000
namespace Go.Ev
open Go.Proofs Go.RowKit
def Begin19P (w : World) (e : Ending) (w' : World) : Prop := ∃ bb p, e = .returned (.tuple #[ptrV bb, .bool true]) ∧ Hb w.heap.size p bb 3000 0 [] w' ∧ Below w.heap.size w w'
theorem begin19 (w : World) : Calls Tryz.prog 12 #[] w (Begin19P w) := by
 go_enter Tryz.func12, Tryz.ntmps12
 go_wp2_with (fail)
 go_must (refine (begin_any w).mono ?_)
 rintro e w1 ⟨d, f, p, pc, root, rfl, hp, hs, hb1⟩
 have HO := Hdz (hp.opened hs hb1.size)
 have HB1 := Hdz hb1
 clear hp hs hb1
 go_wp2_with (fail)
 go_must (refine (open_ok p root w1).mono ?_)
 rintro e w2 ⟨rfl, rfl⟩
 have HB2 := Hdz (HB1.out.trans (((Below.refl w1.heap.size w1).alloc (Nat.le_refl _) (.cells #[ptrV p, .int .i64 root, .int .i64 0] 89)).mono HB1.out.size))
 obtain ⟨bb, hbb⟩ := nmz (w1.heap.size)
 rw [hbb] at HO ⊢
 obtain ⟨w2, hw2⟩ := nmz (w1.alloc (.cells #[ptrV p, .int .i64 root, .int .i64 0] 89))
 rw [hw2] at HO HB2 ⊢
 clear hw2 hbb HB1
 go_wp2_with (fail)
 refine bodyPost_ret (v := .tuple #[ptrV bb, .bool true]) (by simp [results, Tryz.results12, go_sem]) rfl ?_
 exact ⟨bb, p, rfl, HO.out, HB2.out⟩
theorem made_sd {rn' : Nat} {L' : List Bk} (h : MadesB [] 0 [sessK, dataK] rn' L') : rn' = 2 ∧ ∃ r1 r2, L' = [⟨dataK, ⟨r2, [], [r2], 0⟩⟩, ⟨sessK, ⟨r1, [], [r1], 0⟩⟩] := by
 obtain ⟨rn1, L1, h1, h2⟩ := MadesB.snoc_inv (ns := [sessK]) (nm := dataK) h
 obtain ⟨rn0, L0, h0, h1⟩ := MadesB.snoc_inv (ns := []) (nm := sessK) h1
 obtain ⟨rfl, rfl⟩ := h0.nil_inv
 rcases h1 with ⟨h1, _⟩ | ⟨_, r, rfl, rfl⟩
 ·exact absurd rfl h1
 ·rcases h2 with ⟨h2, _⟩ | ⟨_, r2, rfl, rfl⟩
  ·exact absurd (by simp [getB, insB, sessK, dataK]) h2
  ·exact ⟨rfl, r, r2, by simp [insB, sessK, dataK, lessB, Op.bytesLess]⟩
def Begin24P (w : World) (e : Ending) (w' : World) : Prop := ∃ bb u, e = .returned (.tuple #[ptrV bb, u, .bool true]) ∧ Sn (0, []) (fun k => w.heap.size ≤ k) bb 2 0 [] w' ∧ w'.ownsRow w.heap.size 79 2 u 2 [strV dataK, .slice none 0 0, strV sessK, .slice none 0 0] ∧ Below w.heap.size w w'
theorem sn_new {B bb p : Nat} {L' : List Bk} {rn' : Nat} {W : World} (h : Hb B p bb 3000 rn' L' W) (hm : MadesB [] 0 [sessK, dataK] rn' L') : Sn (0, []) (fun k => B ≤ k) bb 2 0 [] W := by
 obtain ⟨rfl, r1, r2, rfl⟩ := made_sd hm
 exact ⟨⟨p, 2, ⟨r2, [], [r2], 0⟩, ⟨r1, [], [r1], 0⟩, h.hf, rfl, rfl, Nat.le_refl _, Nat.zero_le _, Nat.zero_le _, Nat.zero_le _⟩, ⟨fun x hx => (by cases hx), List.Pairwise.nil, by omega⟩, fun x hx => (by cases hx), by simp, by simp [ndN, sumV]⟩
theorem begin24 (w : World) : Calls Tryz.prog 6 #[] w (Begin24P w) := by
 go_enter Tryz.func6, Tryz.ntmps6
 go_wp2_with (fail)
 go_must (refine (begin19 w).mono ?_)
 rintro e w1 ⟨bb, p, rfl, hH, hb1⟩
 have hrow := sl_new w1 [strV sessK, strV dataK] 9
 have HM := Hdz (hH.make ((Below.refl _ _).alloc (Nat.le_refl _) _) w1.heap.size (Nat.le_refl _) 0 2 2 [sessK, dataK] hrow (by decide) (by omega) (by decide) (fun k rn' L' hm => hm.roomyTake (i := 0) ⟨by simp, by omega, fun b hb => (by cases hb)⟩ (by simp)))
 have HB1 := Hdz (hb1.alloc hb1.size (.cells #[strV sessK, strV dataK] 9))
 clear hH hb1 hrow
 go_wp2_with (fail)
 go_must (refine HM.out.mono ?_)
 rintro e w2 ⟨rn2, L2, rfl, hQ, hH, hb2⟩
 have HS := Hdz (sn_new hH hQ)
 have HB2 := Hdz (HB1.out.trans hb2)
 clear hQ hH hb2
 go_wp2_with (fail)
 go_must (refine (makeR_nil sessK w2 (by decide) (by decide)).mono ?_)
 rintro e w3 ⟨u, rfl, hu, hb3⟩
 have HS3 := Hdz (HS.out.below hb3)
 have HB3 := Hdz (HB2.out.trans (hb3.mono HB2.out.size))
 obtain ⟨A, c, rfl, -⟩ := Sl.of_own hu
 have HU := Hdz hu
 clear hu hb3
 go_wp2_with (fail)
 go_must (refine (makeR_one w2.heap.size sessK dataK _ w3 HU.out (by decide) (by decide) (by decide) (by decide) (by decide)).mono ?_)
 rintro e w4 ⟨v, rfl, hv, hb4⟩
 have HS4 := Hdz (HS3.out.below hb4)
 have HB4 := Hdz (HB3.out.trans (hb4.mono HB3.out.size))
 obtain ⟨A4, c4, rfl, -⟩ := Sl.of_own hv
 have HV := Hdz (own_base hv HB3.out.size)
 clear hv hb4
 go_wp2_with (fail)
 refine bodyPost_ret (v := .tuple #[ptrV bb, .slice A4 2 c4, .bool true]) (by simp [results, Tryz.results6, go_sem]) rfl ?_
 exact ⟨bb, _, rfl, HS4.out, HV.out, HB4.out⟩
theorem alive24 (w : World) : Calls Tryz.prog 5 #[] w (TrueB w) := by
 have i64' : ∀ k : Int, -1000 ≤ k → k ≤ 2000 → I64 k := fun k h1 h2 => by unfold I64; omega
 go_enter Tryz.func5, Tryz.ntmps5
 go_wp2_with (fail)
 go_must (refine (begin24 w).mono ?_)
 rintro e w1 ⟨bb, u, rfl, hS, hu, hb1⟩
 obtain ⟨A, c, rfl, -⟩ := Sl.of_own hu
 have HR := Hdz (hS.register (by omega) 7 (i64' 7 (by omega) (by omega)) (by omega))
 have HB1 := Hdz hb1
 clear hS hu hb1
 go_wp2_with (fail)
 go_must (refine HR.out.mono ?_)
 rintro e w2 ⟨rfl, hS, hb2⟩
 have hreg : regS 0 7 [] = [(1, ⟨7, 0, 0, 0, []⟩)] := by simp [regS, dropS]
 rw [hreg] at hS
 have HS2 := Hdz hS
 have HB2 := Hdz (HB1.out.trans (hb2.base HB1.out.size fun k e => e))
 clear hS hb2 hreg
 have e01 : (((0 + 1 : Nat) : Nat) : Int) = 1 := by omega
 rw [e01]
 go_wp2_with (fail)
 obtain ⟨w3, hw3⟩ := nmz (w2.alloc (.cells #[.int .i64 0, strV [118], .int .i64 0] 32))
 have hba : Below w2.heap.size w2 w3 := by rw [← hw3]; exact (Below.refl _ _).alloc (Nat.le_refl _) _
 have hz3 : w3.heap.size = w2.heap.size + 1 := by rw [← hw3]; simp
 have b6 : Blk w3 w2.heap.size 32 #[.int .i64 0, strV [118], .int .i64 0] := by rw [← hw3]; exact Blk.new _ _ _
 obtain ⟨g6, hg6⟩ := nmz (w2.heap.size)
 have hS3 : Sn (0, []) (fun k => w.heap.size ≤ k ∧ k ≠ g6) bb (2 + 3) (0 + 1) [(1, ⟨7, 0, 0, 0, []⟩)] w3 := HS2.out.fence (G := fun _ => False) (Keeps.of_below hba) (fun _ _ _ e => e) (fun k hk e => ⟨e, by omega⟩) fun k hk => ⟨by have := HB2.out.size; omega, by omega⟩
 have HB3 := Hdz (HB2.out.trans (hba.mono HB2.out.size))
 rw [hg6] at b6
 have H6 := Hdz b6
 rw [hw3, hg6]
 have HSv := Hdz (hS3.saveNew (x := ⟨7, 0, 0, 0, []⟩) (by omega) 1 (by omega) (by omega) 1 ⟨0, 0, 0, 0, [118]⟩ (by simp [getS]) (by show (0 : Int) < 1; omega) (by omega) (i64' 1 (by omega) (by omega)) ⟨i64' 0 (by omega) (by omega), i64' 0 (by omega) (by omega), i64' 0 (by omega) (by omega), i64' 0 (by omega) (by omega), by simp⟩ (by simp))
 clear hw3 hg6 hba b6 hz3 hS3
 go_must (refine HSv.out.mono ?_)
 rintro e w4 ⟨rfl, hS, hk4⟩
 have hset : setS 1 (newS ⟨7, 0, 0, 0, []⟩ ⟨0, 0, 0, 0, [118]⟩ 1) [(1, ⟨7, 0, 0, 0, []⟩)] = [(1, ⟨7, 1, 0, 0, [118]⟩)] := by simp [setS, newS]
 rw [hset] at hS
 have hL1 : lookS [(1, ⟨7, 1, 0, 0, [118]⟩)] 1 = some ⟨7, 1, 0, 0, [118]⟩ := by simp [lookS, getS]
 have hL2 : lookS [(1, ⟨7, 1, 0, 0, [118]⟩)] 2 = none := by simp [lookS, getS]
 have HLk := Hdz (Anz hL1 hL2)
 have HS4 := Hdz hS
 have HB4 := Hdz (HB3.out.trans (hk4.base HB3.out.size fun k e => e.1))
 have b6 := H6.out.keeps hk4 fun e => e.2 rfl
 have H64 := Hdz b6
 have HL := Hdz (HS4.out.lookOld (by omega) 1 1 hL1 rfl (by omega))
 clear hS hk4 hset b6 hL1 hL2
 go_wp2_with (fail)
 go_must (refine HL.out.mono ?_)
 rintro e w5 ⟨rfl, hb5⟩
 have hb5a : Below w4.heap.size w4 (w5.alloc (.cells #[.int .i64 0, strV [118], .int .i64 0] 32)) := hb5.alloc hb5.size _
 have HS5 := Hdz (HS4.out.below hb5a)
 have HB5 := Hdz (HB4.out.trans (hb5a.mono HB4.out.size))
 have H65 := Hdz (H64.out.below' hb5a)
 obtain ⟨g8, hg8⟩ := nmz (w5.heap.size)
 have b8 : Blk (w5.alloc (.cells #[.int .i64 0, strV [118], .int .i64 0] 32)) g8 32 #[.int .i64 0, strV [118], .int .i64 0] := by rw [← hg8]; exact Blk.new _ _ _
 obtain ⟨u5, hu5⟩ := nmz (w5.alloc (.cells #[.int .i64 0, strV [118], .int .i64 0] 32))
 rw [hu5] at HS5 HB5 H65 b8
 have H85 := Hdz b8
 have HL := Hdz (HS5.out.lookStale1 (by omega) 1 0 HLk.out.1 (by show (0 : Int) < 1; omega))
 have HU5 := Hdz (Anz hu5 hg8)
 clear hb5 hb5a b8 hu5 hg8
 go_wp2_with (fail)
 rw [HU5.out.1, HU5.out.2]
 clear HU5
 go_must (refine HL.out.mono ?_)
 rintro e w6 ⟨rfl, hb6⟩
 have hb6a : Below u5.heap.size u5 (w6.alloc (.cells #[.int .i64 0, strV [], .int .i64 0] 32)) := hb6.alloc hb6.size _
 have HS6 := Hdz (HS5.out.below hb6a)
 have HB6 := Hdz (HB5.out.trans (hb6a.mono HB5.out.size))
 have H66 := Hdz (H65.out.below' hb6a)
 have H86 := Hdz (H85.out.below' hb6a)
 have HL := Hdz (HS6.out.lookNew (by omega) 1 2 HLk.out.1 (by show (1 : Int) < 2; omega) (by omega))
 clear hb6 hb6a
 go_wp2_with (fail)
 go_must (refine HL.out.mono ?_)
 rintro e w7 ⟨rfl, hb7⟩
 have hb7a := hb7.alloc hb7.size (.cells #[.int .i64 0, strV [], .int .i64 0] 32)
 have HS7 := Hdz (HS6.out.below hb7a)
 have HB7 := Hdz (HB6.out.trans (hb7a.mono HB6.out.size))
 have H67 := Hdz (H66.out.below' hb7a)
 have H87 := Hdz (H86.out.below' hb7a)
 have HL := Hdz (HS7.out.lookNo (by omega) 2 1 HLk.out.2)
 clear hb7 hb7a
 go_wp2_with (fail)
 go_must (refine HL.out.mono ?_)
 rintro e w8 ⟨rfl, hb8⟩
 have hb8a := hb8.alloc hb8.size (.cells #[.int .i64 0, strV [], .int .i64 0] 32)
 have HB8 := Hdz (HB7.out.trans (hb8a.mono HB7.out.size))
 have b6 := H67.out.below' hb8a
 have b8 := H87.out.below' hb8a
 have x0 := b6.cell 0
 have x1 := b6.cell 1
 have x2 := b6.cell 2
 have y0 := b8.cell 0
 have y1 := b8.cell 1
 have y2 := b8.cell 2
 clear hb8 hb8a b6 b8
 go_wp2_with (fail)
 go_ret
 exact ⟨rfl, HB8.out⟩
structure OpS where
 kind : Int
 id : Int
 seq : Int
 err : Int
 val : Bytes
 num : Int
def ossCs (o : OpS) : List Value := [.int .i64 o.kind, .int .i64 o.id, .int .i64 o.seq, .int .i64 o.err, strV o.val, .int .i64 o.num]
theorem ossCs_len (o : OpS) : (ossCs o).length = 6 := rfl
def GoodS (o : OpS) : Prop := I64 o.id ∧ I64 o.seq ∧ I64 o.err ∧ I64 o.num ∧ o.val.length ≤ maxLen
def OssAt (w : World) (v : Value) (l : List OpS) : Prop := Sl w 6 v l.length (l.flatMap ossCs) ∧ l.length ≤ maxLen ∧ ∀ o ∈ l, GoodS o
section
open Go.ChangeShapes Go.WideShapes
variable {H : Type} {enc : TypeId × Value → H} {P : Program} {w : World} {base : Nat} {spare : Nat → Bool} {held : Bool}
theorem i64_wf {n : Int} (h : (Lit.int .i64 n).wf = true) : I64 n := by
 simp only [Lit.wf, Bool.and_eq_true, decide_eq_true_eq] at h
 exact ⟨h.1, h.2⟩
theorem slice_oss {t e : TypeId} {gs rs : Array Field} {fuel : Nat} {v : Value} {y : DataW H × List MemPlace} (ht : P.underlying t = some (.slice e)) (he : P.underlying e = some (.struct gs)) (hC : P.cellsOf e = 6)
  {g0 g1 g2 g3 r0 r1 r2 : Field} (h0 : gs[0]? = some g0) (h1 : gs[1]? = some g1) (h2 : gs[2]? = some g2) (h3 : gs[3]? = some g3) (o0 : g0.offset = 0) (o1 : g1.offset = 1) (o2 : g2.offset = 2) (o3 : g3.offset = 3)
  (c0 : P.cellsOf g0.type = 1) (c1 : P.cellsOf g1.type = 1) (c2 : P.cellsOf g2.type = 1) (c3 : P.cellsOf g3.type = 3)
  (t0 : P.underlying g0.type = some (.int .i64)) (t1 : P.underlying g1.type = some (.int .i64)) (t2 : P.underlying g2.type = some (.int .i64)) (t3 : P.underlying g3.type = some (.struct rs))
  (k0 : rs[0]? = some r0) (k1 : rs[1]? = some r1) (k2 : rs[2]? = some r2) (p0 : r0.offset = 0) (p1 : r1.offset = 1) (p2 : r2.offset = 2) (d0 : P.cellsOf r0.type = 1) (d1 : P.cellsOf r1.type = 1) (d2 : P.cellsOf r2.type = 1)
  (u0 : P.underlying r0.type = some (.int .i64)) (u1 : P.underlying r1.type = some .string) (u2 : P.underlying r2.type = some (.int .i64))
  (h : DataW.trod enc P w base spare held fuel t [v] = some y) : ∃ l, OssAt w v l := by
 refine slice_rows ht hC (by omega) ossCs_len (fun n' cs x hl hx => ?_) h
 match cs, hl with
 | [a0, a1, a2, a3, a4, a5], _ =>
  obtain ⟨xs, n1, _, _, _, hxl, hf⟩ := DataW.trod_struct he hx
  have hgs : 3 < gs.size := (Array.getElem?_eq_some_iff.1 h3).1
  have f0 := hf 0 g0 h0
  have f1 := hf 1 g1 h1
  have f2 := hf 2 g2 h2
  have f3 := hf 3 g3 h3
  rw [o0, c0, List.getElem?_eq_getElem (by omega)] at f0
  rw [o1, c1, List.getElem?_eq_getElem (by omega)] at f1
  rw [o2, c2, List.getElem?_eq_getElem (by omega)] at f2
  rw [o3, c3, List.getElem?_eq_getElem (by omega)] at f3
  obtain ⟨z0, e0, _, _⟩ := DataW.trod_int t0 f0
  obtain ⟨z1, e1, _, b1⟩ := DataW.trod_int t1 f1
  obtain ⟨z2, e2, _, b2⟩ := DataW.trod_int t2 f2
  obtain ⟨ys, n2, _, _, _, hyl, hk⟩ := DataW.trod_struct t3 f3
  have hrs : 2 < rs.size := (Array.getElem?_eq_some_iff.1 k2).1
  have f4 := hk 0 r0 k0
  have f5 := hk 1 r1 k1
  have f6 := hk 2 r2 k2
  rw [p0, d0, List.getElem?_eq_getElem (by omega)] at f4
  rw [p1, d1, List.getElem?_eq_getElem (by omega)] at f5
  rw [p2, d2, List.getElem?_eq_getElem (by omega)] at f6
  obtain ⟨z3, e3, _, b3⟩ := DataW.trod_int u0 f4
  obtain ⟨z4, e4, _, b4⟩ := DataW.trod_string u1 f5
  obtain ⟨z5, e5, _, b5⟩ := DataW.trod_int u2 f6
  simp at e0 e1 e2 e3 e4 e5
  subst e0 e1 e2 e3 e4 e5
  exact ⟨⟨z0, z1, z2, z3, z4.data.toList, z5⟩, by simp [ossCs], i64_wf b1, i64_wf b2, i64_wf b3, i64_wf b5, b4⟩
end
structure OnceInv (n : Nat) (l : List (Nat × Ses)) (sq : List Int) : Prop where
 ids : ∀ j (h : j < l.length), l[j].1 = n - l.length + j + 1
 len : l.length = min n 40
 sql : sq.length = n
 last : 0 < n → ∃ x, getS n l = some x ∧ sq[n - 1]? = some x.seq
theorem OnceInv.start : OnceInv 0 [] [] := ⟨fun j h => (by cases h), rfl, rfl, fun h => by omega⟩
theorem dropS_at {l : List (Nat × Ses)} {j : Nat} (h : j < (dropS l).length) : ∃ (h' : j + (l.length - (dropS l).length) < l.length), (dropS l)[j] = l[j + (l.length - (dropS l).length)] := by
 by_cases h40 : l.length < 40
 ·have e : dropS l = l := if_pos h40
  simp only [e, Nat.sub_self, Nat.add_zero] at h ⊢
  exact ⟨h, trivial⟩
 ·have e : dropS l = l.tail := if_neg h40
  simp only [e, List.length_tail] at h ⊢
  refine ⟨by omega, ?_⟩
  have : l.length - (l.length - 1) = 1 := by omega
  simp only [this, List.getElem_tail]
theorem OnceInv.reg {n : Nat} {l : List (Nat × Ses)} {sq : List Int} (h : OnceInv n l sq) (ho : SesOk n l) (who : Int) : OnceInv (n + 1) (regS n who l) (sq ++ [0]) := by
 have hlen := h.len
 have hd : (dropS l).length = min n 39 := by
  unfold dropS
  split
  ·omega
  ·rw [List.length_tail]; omega
 have hl : (regS n who l).length = (dropS l).length + 1 := by simp [regS]
 refine ⟨fun j hj => ?_, by omega, by simp [h.sql], fun _ => ⟨⟨who, 0, 0, 0, []⟩, getS_snoc fun x hx => ?_, by rw [Nat.add_sub_cancel, List.getElem?_append_right (by rw [h.sql]; omega), h.sql, Nat.sub_self]; rfl⟩⟩
 ·have key : ∀ y, (dropS l ++ [(n + 1, (⟨who, 0, 0, 0, []⟩ : Ses))])[j]? = some y → y.1 = n + 1 - ((dropS l).length + 1) + j + 1 := fun y hy => by
   by_cases hjd : j < (dropS l).length
   ·obtain ⟨h1, h2⟩ := dropS_at hjd
    rw [List.getElem?_append_left hjd, List.getElem?_eq_getElem hjd, h2] at hy
    cases hy
    rw [h.ids _ h1]
    omega
   ·have hj2 : j = (dropS l).length := by omega
    rw [List.getElem?_append_right (by omega), hj2, Nat.sub_self] at hy
    cases hy
    simp only
    omega
  rw [hl]
  exact key _ (List.getElem?_eq_getElem hj)
 ·have := (ho.1 x (dropS_mem hx)).2
  omega
theorem OnceInv.save {n : Nat} {l : List (Nat × Ses)} {sq : List Int} (h : OnceInv n l sq) (hn : 0 < n) (s : Ses) : OnceInv n (setS n s l) (sq.set (n - 1) s.seq) := by
 obtain ⟨x, hx, _⟩ := h.last hn
 refine ⟨fun j hj => ?_, by rw [setS_len, h.len], by simp [h.sql], fun _ => ⟨s, getS_set (by rw [hx]; simp), by rw [List.getElem?_set_self (by rw [h.sql]; omega)]⟩⟩
 have hj' : j < l.length := by rwa [setS_len] at hj
 have e := congrArg (fun m : List Nat => m[j]?) (setS_ids (id := n) (s := s) l)
 simp only [List.getElem?_map, List.getElem?_eq_getElem hj, List.getElem?_eq_getElem hj', Option.map_some, Option.some.injEq] at e
 rw [e, setS_len]
 exact h.ids j hj'
def upto (n : Nat) : List Int := (List.range n).map fun i => ((i + 1 : Nat) : Int)
theorem upto_snoc (n : Nat) : upto (n + 1) = upto n ++ [((n + 1 : Nat) : Int)] := by simp [upto, List.range_succ]
theorem upto_at {n k : Nat} (h : k < n) : (intsV (upto n))[k]? = some (.int .i64 ((k + 1 : Nat) : Int)) := by simp [intsV, upto, h]
def Fq (B : Nat) (v1 v2 : Value) (G : Nat → Prop) : Nat → Prop := fun k => B ≤ k ∧ v1.ownBlock ≠ some k ∧ v2.ownBlock ≠ some k ∧ ¬ G k
structure OnceSt (B bb q n : Nat) (l : List (Nat × Ses)) (sq : List Int) (G : Nat → Prop) (v1 v2 : Value) (W : World) : Prop where
 sn : Sn (0, []) (Fq B v1 v2 G) bb q n l W
 ids : W.ownsRow B 3 1 v1 n (intsV (upto n))
 sqs : W.ownsRow B 3 1 v2 n (intsV sq)
 ap1 : ∀ k, v1.ownBlock = some k → v2.ownBlock = some k → False
 inv : OnceInv n l sq
section
variable {B bb q n : Nat} {l : List (Nat × Ses)} {sq : List Int} {G : Nat → Prop} {v1 v2 v1' v2' : Value} {W W1 W2 W3 W4 W5 W' : World}
theorem OnceSt.below (h : OnceSt B bb q n l sq G v1 v2 W) (hb : Below W.heap.size W W') : OnceSt B bb q n l sq G v1 v2 W' := ⟨h.sn.below hb, own_below h.ids hb, own_below h.sqs hb, h.ap1, h.inv⟩
theorem OnceSt.start (h : Sn (0, []) (fun k => B ≤ k) bb q 0 [] W) : OnceSt B bb q 0 [] [] (fun _ => False) (.slice none 0 0) (.slice none 0 0) W :=
 ⟨h.fence (G := fun _ => False) (Keeps.refl _ W) (fun _ _ _ e => e) (fun k _ e => ⟨e, by simp [Value.ownBlock], by simp [Value.ownBlock], fun e => e⟩) fun k hk => ⟨h.size k hk, by simp [Value.ownBlock], by simp [Value.ownBlock], fun e => e⟩,
  World.ownsRow_nil _ _ _ _, World.ownsRow_nil _ _ _ _, fun k e => (by cases e), OnceInv.start⟩
theorem OnceSt.box (h : OnceSt B bb q n l sq (fun _ => False) v1 v2 W) (hB : B ≤ W.heap.size) (o : Obj) : OnceSt B bb q n l sq (fun k => k = W.heap.size) v1 v2 (W.alloc o) := by
 have hb : Below W.heap.size W (W.alloc o) := (Below.refl _ _).alloc (Nat.le_refl _) o
 refine ⟨h.sn.fence (G := fun _ => False) (Keeps.of_below hb) (fun _ _ _ e => e) (fun k hk e => ⟨e.1, e.2.1, e.2.2.1, by omega⟩) fun k hk => ?_, own_below h.ids hb, own_below h.sqs hb, h.ap1, h.inv⟩
 have hz : (W.alloc o).heap.size = W.heap.size + 1 := by simp
 exact ⟨by omega, fun e => by have := (h.ids.lt k e).2; omega, fun e => by have := (h.sqs.lt k e).2; omega, by omega⟩
theorem OnceSt.unbox (h : OnceSt B bb q n l sq G v1 v2 W) : OnceSt B bb q n l sq (fun _ => False) v1 v2 W :=
 ⟨h.sn.fence (G := fun _ => False) (Keeps.refl _ W) (fun _ _ _ e => e) (fun k _ e => ⟨e.1, e.2.1, e.2.2.1, fun e => e⟩) fun k hk => ⟨(h.sn.size k hk).1, (h.sn.size k hk).2.1, (h.sn.size k hk).2.2.1, fun e => e⟩, h.ids, h.sqs, h.ap1, h.inv⟩
theorem OnceSt.reg {who : Int} {q1 : Nat} (h : OnceSt B bb q n l sq G v1 v2 W) (hk : Keeps (Fq B v1 v2 G) W W1) (hS : Sn (0, []) (Fq B v1 v2 G) bb q1 (n + 1) (regS n who l) W1) (hb2 : Below W1.heap.size W1 W2)
  (hg1 : W2.grownBy W3 v1.ownBlock) (hat1 : ∀ k, v1'.ownBlock = some k → v1.ownBlock = some k ∨ W2.heap.size ≤ k) (ho1 : W3.ownsRow B 3 1 v1' (n + 1) (intsV (upto (n + 1)))) (hb4 : Below W3.heap.size W3 W4)
  (hg2 : W4.grownBy W5 v2.ownBlock) (hat2 : ∀ k, v2'.ownBlock = some k → v2.ownBlock = some k ∨ W4.heap.size ≤ k) (ho2 : W5.ownsRow B 3 1 v2' (n + 1) (intsV (sq ++ [0]))) :
  OnceSt B bb q1 (n + 1) (regS n who l) (sq ++ [0]) G v1' v2' W5 := by
 have k1 : Keeps (fun k => v1.ownBlock = some k) W2 W3 := (Keeps.refl _ W2).grown hg1 fun k e _ => e
 have k2 : Keeps (fun k => v2.ownBlock = some k) W4 W5 := (Keeps.refl _ W4).grown hg2 fun k e _ => e
 have z0 := hk.size
 have z1 := hb2.size
 have z2 := k1.size
 have z3 := hb4.size
 have z4 := k2.size
 have hsz := hS.size
 have s3 : Sn (0, []) (Fq B v1' v2 G) bb q1 (n + 1) (regS n who l) W3 := (hS.below hb2).fence k1 (fun k _ e => e.2.1) (fun k hk e => ⟨e.1, fun hh => (hat1 k hh).elim e.2.1 fun h => by omega, e.2.2⟩) fun k hk => by
  have := hsz k (by omega)
  exact ⟨this.1, fun hh => by have := (ho1.lt k hh).2; omega, this.2.2⟩
 have s5 : Sn (0, []) (Fq B v1' v2' G) bb q1 (n + 1) (regS n who l) W5 := (s3.below hb4).fence k2 (fun k _ e => e.2.2.1) (fun k hk e => ⟨e.1, e.2.1, fun hh => (hat2 k hh).elim e.2.2.1 fun h => by omega, e.2.2.2⟩) fun k hk => by
  have := s3.size k (by omega)
  exact ⟨this.1, this.2.1, fun hh => by have := (ho2.lt k hh).2; omega, this.2.2.2⟩
 have hap : ∀ k, v1'.ownBlock = some k → v2.ownBlock = some k → False := fun k e1 e2 => (hat1 k e1).elim (fun e => h.ap1 k e e2) fun e => by have := (h.sqs.lt k e2).2; omega
 refine ⟨s5, own_keeps (own_below ho1 hb4) k2 (fun k e1 e2 => hap k e1 e2), ho2, fun k e1 e2 => (hat2 k e2).elim (fun e => hap k e1 e) fun e => by have := (ho1.lt k e1).2; omega, h.inv.reg h.sn.ok who⟩
theorem OnceSt.saved {s : Ses} {q1 g cap m : Nat} (h : OnceSt B bb q n l sq G v1 (.slice (some ⟨g, 0, none⟩) n cap) W) (hn : n = m + 1) (hk : Keeps (Fq B v1 (.slice (some ⟨g, 0, none⟩) n cap) G) W W1) (hS : Sn (0, []) (Fq B v1 (.slice (some ⟨g, 0, none⟩) n cap) G) bb q1 n (setS n s l) W1) (hb : Below W1.heap.size W1 W2) :
  OnceSt B bb q1 n (setS n s l) (sq.set m s.seq) G v1 (.slice (some ⟨g, 0, none⟩) n cap) (W2.setCell ⟨g, m, none⟩ (.int .i64 s.seq)) := by
 have o2 := own_below (own_keeps h.sqs hk fun k e hF => hF.2.2.1 e) hb
 have o1 := own_below (own_keeps h.ids hk fun k e hF => hF.2.1 e) hb
 obtain ⟨o3, hg⟩ := o2.stored m (.int .i64 s.seq)
 rw [intsV_set] at o3
 have kk : Keeps (fun k => k = g) W2 (W2.setCell ⟨g, m, none⟩ (.int .i64 s.seq)) := (Keeps.refl (fun k => k = g) W2).setCell (p := ⟨g, m, none⟩) (fun _ => rfl) _
 have hg2 : ∀ k, Fq B v1 (.slice (some ⟨g, 0, none⟩) n cap) G k → ¬ k = g := fun k e hh => e.2.2.1 (by rw [hh]; rfl)
 have hi := h.inv.save (by omega) s
 have hm : n - 1 = m := by omega
 rw [hm] at hi
 exact ⟨(hS.below hb).fence kk (fun k _ e => hg2 k e) (fun k _ e => e) fun k hk => (hS.below hb).size k (Nat.le_trans kk.size hk), own_keeps o1 kk (fun k e1 e2 => h.ap1 k e1 (by rw [e2]; rfl)), o3, h.ap1, hi⟩
end
end Go.Ev
