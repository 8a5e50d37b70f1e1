/-
  The law arboretumlaw25.KvGets, walked over the contracts of all that it calls. The law arboretumlaw25.KvGets holds, whatever it is handed: its text is walked over the contracts of all that it calls; conditions: the row's own (the listed variables are as the program's text lays them). The law arboretumlaw25.KvGets holds, whatever it is handed: its text is walked over the contracts of all that it calls; conditions: the row's own (the listed variables are as the program's text lays them).
-/
import Derived.Test.YtmnniabfbelpbaaGreatDoorMGwAlive25
import Derived.Test.YtmnniabfbelpbaaGreatDoorMGwSame
import Derived.Carry
import Derived.ChangeMaps5
import Derived.Deep.DeepCutAuto
import Derived.LaidMore
import Derived.Lay
import Derived.OpenShut
import Derived.ProofKit
import Derived.SevenTiedAt
import Derived.Stop.Joined
import Derived.Test.YtmnniabfbelpbaaGreatDoorCards
import Derived.Test.YtmnniabfbelpbaaGreatDoorTie
set_option linter.unusedVariables false
set_option linter.unusedSimpArgs false
namespace Go.Ev
open Go.Proofs Go.RowKit
def opGetW (key : Bytes) : KOp := ⟨4, 0, 0, key, [], []⟩
def opPutF (ses : Int) (key : Bytes) : KOp := ⟨1, ses, 1, key, [118], []⟩
section
variable {key : Bytes} (h1 : 1 ≤ key.length) (h2 : key.length ≤ 38)
include h1 h2 in
theorem doGetW (s : KSt) : doK s (opGetW key) = (((getR s.1.2 key).1, (getR s.1.2 key).2, 0), s) := by
 have hr : rightK (opGetW key) = true := by simp [rightK, plainO, keyK, opGetW, h1, h2]
 have hv : validK (opGetW key) = 0 := by unfold validK; rw [hr]; simp [opGetW]
 unfold doK
 rw [hv]
 simp [opGetW]
theorem getS_out {id : Nat} : ∀ {l : List (Nat × Ses)}, (∀ x ∈ l, x.1 < id) → getS id l = none
 | [], _ => rfl
 | x :: l, h => by
  have h1 := h x (List.mem_cons_self ..)
  simp only [getS]
  rw [if_neg (by omega)]
  exact getS_out fun y hy => h y (List.mem_cons_of_mem _ hy)
include h1 h2 in
theorem doPutF (s : KSt) (ses : Int) (hs : ¬ (1 ≤ ses ∧ ses ≤ 60)) (hl : ∀ x ∈ s.2.2, x.1 ≤ 60) : ∃ e : Int, (e = 24 ∨ e = 1) ∧ doK s (opPutF ses key) = ((e, [], 0), s) := by
 by_cases hp : ses < 1
 ·have hr : rightK (opPutF ses key) = false := by simp [rightK, plainO, keyK, opPutF, hp]
  have hv : validK (opPutF ses key) = 1 := by unfold validK; rw [hr]; simp
  refine ⟨1, .inr rfl, ?_⟩
  unfold doK
  rw [hv]
  simp
 ·have hr : rightK (opPutF ses key) = true := by simp [rightK, plainO, keyK, opPutF, hp, h1, h2]
  have hv : validK (opPutF ses key) = 0 := by unfold validK; rw [hr]; simp [opPutF]
  have hk : lookS s.2.2 ses = none := by
   unfold lookS
   split
   ·exact getS_out fun x hx => by have := hl x hx; omega
   ·rfl
  refine ⟨24, .inl rfl, ?_⟩
  unfold doK
  rw [hv]
  simp [opPutF, hk]
end
set_option maxHeartbeats 16000000 in
set_option maxRecDepth 100000 in
theorem gets_walk (A : Option Addr) (n c : Nat) (ops : List KOp) (key : Bytes) (ses : Int) (w : World) (h : KopsAt w (.slice A n c) ops) (hG : ∀ o ∈ ops, GoodK o) (hk : key.length ≤ 9223372036854775807) (hse : I64 ses) :
  Calls Tryz.prog 5 #[.slice A n c, strV key, .int .i64 ses] w (TrueB w) := by
 have HAl : Hid (∀ W, Calls Tryz.prog 7 #[] W (TrueB W)) := fun W => alive25 W
 have HF := Hdz (few_any A n c ops w h)
 have hn : n = ops.length := by obtain ⟨⟨_, _, e, _⟩, _⟩ := h; cases e; rfl
 subst hn
 have HA := Hdz h
 have HGd := Hdz hG
 have HSe := Hdz hse
 obtain ⟨nk, hnk⟩ : ∃ n, key.length = n := ⟨_, rfl⟩
 have HNk := Hdz hnk
 have hml : ops.length ≤ 9223372036854775807 := by have := h.2.1; unfold maxLen at this; exact this
 clear h hG hse
 rw [hnk] at hk
 go_enter Tryz.func5, Tryz.ntmps5
 go_upto_region 1 with fail
 go_cut [41] from 21 to 41 (fun s41 wx => ∃ q : Bool, s41 = .bool q ∧ Hid (q = false → (ops.length ≤ 200 ∧ sizK ops ≤ 60000) ∧ 1 ≤ nk ∧ nk ≤ 38 ∧ ¬ (1 ≤ ses ∧ ses ≤ 60)) ∧ Hid (Below w.heap.size w wx))
 case first =>
  go_wp2_with (fail)
  go_must (refine HF.out.mono ?_)
  rintro e w1 ⟨bl, rfl, hfew, hb1⟩
  have HB1 := Hdz hb1
  have HFew := Hdz hfew
  clear hb1 hfew
  cases bl
  case false =>
   go_wp2_with (fail)
   go_meet
   exact ⟨true, rfl, (fun e => by cases e), HB1.out⟩
  case true =>
   have hcs : (nk : Int) < 1 ∨ (¬ (nk : Int) < 1 ∧ (38 : Int) < (nk : Int)) ∨ (¬ (nk : Int) < 1 ∧ ¬ (38 : Int) < (nk : Int) ∧ 1 ≤ ses ∧ ses ≤ 60) ∨ (¬ (nk : Int) < 1 ∧ ¬ (38 : Int) < (nk : Int) ∧ 1 ≤ ses ∧ ¬ ses ≤ 60) ∨ (¬ (nk : Int) < 1 ∧ ¬ (38 : Int) < (nk : Int) ∧ ¬ 1 ≤ ses) := by omega
   rcases hcs with d0 | ⟨d0, d1⟩ | ⟨d0, d1, d2, d3⟩ | ⟨d0, d1, d2, d3⟩ | ⟨d0, d1, d2⟩
   all_goals
    go_wp2_with (fail)
    go_meet
    first | exact ⟨true, rfl, (fun e => by cases e), HB1.out⟩ | exact ⟨false, rfl, (fun _ => ⟨HFew.out (by first | rfl | trivial), by omega, by omega, by omega⟩), HB1.out⟩ | exact ⟨_, rfl, (fun _ => ⟨HFew.out (by first | rfl | trivial), by omega, by omega, by omega⟩), HB1.out⟩
 case rest =>
  obtain ⟨q, rfl, hq, HB1⟩ := hcut
  obtain ⟨w1, rfl⟩ : ∃ we, we = wc := ⟨_, rfl⟩
  cases q
  case true =>
   go_wp2_with (fail)
   go_must (refine (HAl.out _).mono ?_)
   rintro e w2 ⟨rfl, hb2⟩
   have HB2 := Hdz (HB1.out.trans (hb2.mono HB1.out.size))
   clear hb2
   go_wp2_with (fail)
   go_ret
   exact ⟨rfl, HB2.out⟩
  case false =>
  obtain ⟨⟨hf1, hf2⟩, hk1, hk2, hns⟩ := hq.out rfl
  have HFew := Hdz (Anz hf1 hf2)
  have HK1 : Hid (1 ≤ key.length) := by rw [hnk]; exact hk1
  have HK2 : Hid (key.length ≤ 38) := by rw [hnk]; exact hk2
  have HNs := Hdz hns
  clear hq hf1 hf2 hk1 hk2 hns hnk
  go_wp2_with (fail)
  go_must (refine (begin25 _).mono ?_)
  rintro e w2 ⟨bb, u, rfl, hS, hu, hb2⟩
  obtain ⟨A2, c2, rfl, -⟩ := Sl.of_own hu
  have HS2 := Hdz (KvAt.zero hS)
  have HB2 := Hdz (HB1.out.trans (hb2.mono HB1.out.size))
  have HZ1 := Hdz HB1.out.size
  clear hS hu hb2
  go_wp2_with (fail)
  go_loopg [10] 50 (fun gk s10 wr => ∃ (i : Nat) (s : KSt), s10 = .int .i64 (i : Int) ∧ i + gk = 50 ∧ i ≤ ops.length ∧ Hid (KvAt (fun k => w1.heap.size ≤ k) bb i (sizK (ops.take i)) s wr) ∧ Below w.heap.size w wr)
  case atStart => exact ⟨0, _, rfl, by omega, by omega, HS2.out, HB2.out⟩
  case round =>
   obtain ⟨i, s, rfl, hi, hil, HSi, hbw⟩ := hrel
   have HBw := Hdz hbw
   clear hbw
   go_upto_region 7 with fail
   go_cut [57] from 50 to 57 (fun s57 wx => s57 = .bool (decide (i < ops.length ∧ i < 50)) ∧ wx = wr)
   case first =>
    have hcs : ¬ (i : Int) < (ops.length : Int) ∨ ((i : Int) < (ops.length : Int) ∧ ¬ (i : Int) < 50) ∨ ((i : Int) < (ops.length : Int) ∧ (i : Int) < 50) := by omega
    have HD : Hid (∀ b : Bool, (b = true ↔ i < ops.length ∧ i < 50) → Value.bool b = Value.bool (decide (i < ops.length ∧ i < 50))) := fun b hb => by
     congr 1; rw [Bool.eq_iff_iff, hb]; simp
    rcases hcs with d4 | ⟨d4, d5⟩ | ⟨d4, d5⟩
    all_goals
     go_wp2_with (fail)
     go_meet
     exact ⟨HD.out _ (by constructor <;> intro h <;> first | (cases h; done) | (exfalso; omega) | rfl | omega), rfl⟩
   case rest =>
   obtain ⟨rfl, rfl⟩ := hcut
   obtain ⟨wr, rfl⟩ : ∃ we, we = wc := ⟨_, rfl⟩
   by_cases hlt : i < ops.length ∧ i < 50
   case pos =>
    rw [decide_eq_true hlt]
    have hi0 : (0 : Int) ≤ (i : Int) := by omega
    have hin : (i : Int) < (ops.length : Int) := by omega
    have hw1 : IntKind.i64.wrap ((i : Int) + 1) = (i : Int) + 1 := IntWalk.i64_in _ (by omega)
    obtain ⟨A', c', e0, _, _, hcl⟩ := HA.out.1.below HBw.out
    cases e0
    obtain ⟨blk, off, rfl, hbl, hcell⟩ := hcl (by omega)
    have x0 : wr.cell? ⟨blk, off + i * 6, none⟩ = _ := hcell _ _ (flat_at kopCs_len ops i 0 hlt.1 (by omega))
    have x1 : wr.cell? ⟨blk, off + i * 6 + 1, none⟩ = _ := hcell _ _ (flat_at kopCs_len ops i 1 hlt.1 (by omega))
    have x2 : wr.cell? ⟨blk, off + i * 6 + 2, none⟩ = _ := hcell _ _ (flat_at kopCs_len ops i 2 hlt.1 (by omega))
    have x3 : wr.cell? ⟨blk, off + i * 6 + 3, none⟩ = _ := hcell _ _ (flat_at kopCs_len ops i 3 hlt.1 (by omega))
    have x4 : wr.cell? ⟨blk, off + i * 6 + 4, none⟩ = _ := hcell _ _ (flat_at kopCs_len ops i 4 hlt.1 (by omega))
    have x5 : wr.cell? ⟨blk, off + i * 6 + 5, none⟩ = _ := hcell _ _ (flat_at kopCs_len ops i 5 hlt.1 (by omega))
    have hst := sizK_take ops i hlt.1
    have hle := sizK_le ops (i + 1)
    have hf := HFew.out.2
    have HD := Hdz (HSi.out.do ops[i] (HGd.out _ (List.getElem_mem hlt.1)) (by omega) (by omega))
    have HSt := Hdz hst
    have hig : i + 1 ≤ ops.length := hlt.1
    have hi50 : i < 50 := hlt.2
    clear hst hle hf hcell hcl HSi
    generalize ops[i]'hlt.1 = o at *
    clear hlt
    go_wp2_with (fail)
    go_must (refine HD.out.mono ?_)
    rintro e w3 ⟨rfl, hS3, hk3⟩
    have HB3 := Hdz (HBw.out.trans (hk3.base HBw.out.size fun k e => Nat.le_trans HZ1.out e))
    have HS3 := Hdz (hS3.more (C := sizK (ops.take (i + 1))) (by have := HSt.out; omega))
    clear hS3 hk3
    go_wp2_with (fail)
    go_roundg (gk - 1)
    case measure => omega
    case rel => exact ⟨i + 1, _, by simp, by omega, hig, HS3.out, HB3.out⟩
   case neg =>
    rw [decide_eq_false hlt]
    have HS3 := Hdz (HSi.out.more (C := 60000) (by have := sizK_le ops i; have := HFew.out.2; omega))
    have hi50 : i ≤ 50 := by omega
    clear hlt HSi
    go_wp2_with (fail)
    go_must (refine (HS3.out.rangeD (by omega) _ rfl).mono ?_)
    rintro e w4 ⟨v4, rfl, hcl4, hb4⟩
    have hlen := HS3.out.2.len
    have HC4 := Hdz hcl4.to
    have HB4 := Hdz (HBw.out.trans (hb4.mono HBw.out.size))
    obtain ⟨A4, rfl, -, -⟩ := hcl4.sl
    have HS4 := Hdz (HS3.out.gap hb4)
    have HD4 := HS4.out.do (opGetW key) ⟨by simp [I64, opGetW], by simp [I64, opGetW], by have := HK2.out; simp only [opGetW]; omega, by simp [opGetW], by simp [opGetW]⟩ (by omega) (by simp [opGetW])
    rw [doGetW HK1.out HK2.out] at HD4
    obtain ⟨pl, hpl⟩ := nmz (s.1.2)
    have HPl := Hdz hpl
    obtain ⟨ge, hge⟩ : ∃ x, (getR s.1.2 key).1 = x := ⟨_, rfl⟩
    obtain ⟨gv, hgv⟩ : ∃ x, (getR s.1.2 key).2 = x := ⟨_, rfl⟩
    have HGE := Hdz (Anz hge hgv)
    simp only [hge, hgv] at HD4
    replace HD4 := Hdz HD4
    rw [hpl] at HC4 hlen
    clear hcl4 hb4 hpl hge hgv
    go_wp2_with (fail)
    go_must (refine HD4.out.mono ?_)
    rintro e w5 ⟨rfl, hS5, hk5⟩
    have HC5 := Hdz (HC4.out.far hk5 fun k hk1 hk2 e => e.2 ⟨hk1, hk2⟩)
    have HB5 := Hdz (HB4.out.trans (hk5.base HB4.out.size fun k e => Nat.le_trans HZ1.out e.1))
    obtain ⟨w6, hw6⟩ := nmz (w5.alloc (.cells #[.int .i64 ge, strV gv, .int .i64 0] 32))
    obtain ⟨g6, hg6⟩ := nmz (w5.heap.size)
    have hba : Below w5.heap.size w5 w6 := by rw [← hw6]; exact (Below.refl _ _).alloc (Nat.le_refl _) _
    have b6 : Blk w6 g6 32 #[.int .i64 ge, strV gv, .int .i64 0] := by rw [← hw6, ← hg6]; exact Blk.new _ _ _
    have hS6 := hS5.gap hba
    have HC6 := Hdz (HC5.out.below hba)
    have HB6 := Hdz (HB5.out.trans (hba.mono HB5.out.size))
    have hg := hS6.get (by omega) key HK1.out (by have := HK2.out; omega)
    rw [HGE.out.1, HGE.out.2] at hg
    have HG := Hdz hg
    have HS6 := Hdz hS6
    have H6 := Hdz b6
    have HW6 := Hdz (Anz hw6 hg6)
    have HX6 : Hid (g6 = w5.heap.size ∧ w6.heap.size = g6 + 1) := ⟨hg6.symm, by rw [← hw6, ← hg6]; simp⟩
    clear hS5 hk5 hba b6 hS6 hg hw6 hg6
    go_wp2_with (fail)
    rw [HW6.out.1, HW6.out.2]
    go_must (refine HG.out.mono ?_)
    rintro e w7 ⟨rfl, hb7⟩
    obtain ⟨w8, hw8⟩ := nmz (w7.alloc (.cells #[.int .i64 ge, strV gv, .int .i64 0] 32))
    obtain ⟨g8, hg8⟩ := nmz (w7.heap.size)
    have hba : Below w7.heap.size w7 w8 := by rw [← hw8]; exact (Below.refl _ _).alloc (Nat.le_refl _) _
    have b8 : Blk w8 g8 32 #[.int .i64 ge, strV gv, .int .i64 0] := by rw [← hw8, ← hg8]; exact Blk.new _ _ _
    have hb8 := hb7.trans (hba.mono hb7.size)
    have hS8 := HS6.out.gap hb8
    have HX8 : Hid (w6.heap.size ≤ g8 ∧ w8.heap.size = g8 + 1) := ⟨by rw [← hg8]; exact hb7.size, by rw [← hw8, ← hg8]; simp⟩
    obtain ⟨ez, hez, hdo⟩ := doPutF HK1.out HK2.out s ses HNs.out (fun x hx => by have h1 := (hS8.1.ok.1 x hx).2; have h2 := hS8.2.num; omega)
    have hd := hS8.do (opPutF ses key) ⟨HSe.out, by simp [I64, opPutF], by have := HK2.out; simp only [opPutF]; omega, by simp [opPutF], by simp [opPutF]⟩ (by omega) (by simp [opPutF, opGetW])
    rw [hdo] at hd
    have HD8 := Hdz hd
    have H8 := Hdz (Anz (H6.out.below' hb8) b8)
    have HC8 := Hdz (HC6.out.below hb8)
    have HB8 := Hdz (HB6.out.trans (hb8.mono HB6.out.size))
    have HW8 := Hdz (Anz hw8 hg8)
    clear hb7 hba b8 hb8 hS8 hdo hd hw8 hg8
    go_wp2_with (fail)
    rw [HW8.out.1, HW8.out.2]
    go_must (refine HD8.out.mono ?_)
    rintro e w9 ⟨rfl, hS9, hk9⟩
    have HC9 := Hdz (HC8.out.far hk9 fun k hk1 hk2 e => e.1.1.2 ⟨hk1, hk2⟩)
    have HB9 := Hdz (HB8.out.trans (hk9.base HB8.out.size fun k e => Nat.le_trans HZ1.out e.1.1.1))
    obtain ⟨w10, hw10⟩ := nmz (w9.alloc (.cells #[.int .i64 ez, strV [], .int .i64 0] 32))
    obtain ⟨g10, hg10⟩ := nmz (w9.heap.size)
    have hba : Below w9.heap.size w9 w10 := by rw [← hw10]; exact (Below.refl _ _).alloc (Nat.le_refl _) _
    have b10 : Blk w10 g10 32 #[.int .i64 ez, strV [], .int .i64 0] := by rw [← hw10, ← hg10]; exact Blk.new _ _ _
    have b6 := H8.out.1.keeps hk9 fun e => e.1.2 ⟨by have := HX6.out; omega, by have := HX6.out; omega⟩
    have b8 := H8.out.2.keeps hk9 fun e => e.2 ⟨HX8.out.1, by have := HX8.out; omega⟩
    have HR := Hdz ((hS9.below hba).rangeD (by omega) _ rfl)
    have H10 := Hdz (Anz (b6.below' hba) (Anz (b8.below' hba) b10))
    have HC10 := Hdz (HC9.out.below hba)
    have HB10 := Hdz (HB9.out.trans (hba.mono HB9.out.size))
    have HW10 := Hdz (Anz hw10 hg10)
    clear hS9 hk9 hba b10 b6 b8 hw10 hg10
    go_wp2_with (fail)
    rw [HW10.out.1, HW10.out.2]
    go_must (refine HR.out.mono ?_)
    rintro e w11 ⟨v11, rfl, hcl, hb11⟩
    rw [HPl.out] at hcl
    obtain ⟨A11, rfl, -, hs11⟩ := hcl.sl
    have HC11 := Hdz (HC10.out.below hb11)
    have HS11 := Hdz hs11
    have H11 := Hdz (Anz (H10.out.1.below' hb11) (Anz (H10.out.2.1.below' hb11) (H10.out.2.2.below' hb11)))
    have HB11 := Hdz (HB10.out.trans (hb11.mono HB10.out.size))
    rw [HPl.out]
    clear hcl hs11 hb11
    go_wp2_with (fail)
    go_must (refine (HAl.out _).mono ?_)
    rintro e w12 ⟨rfl, hb12⟩
    have b6 := H11.out.1.below' hb12
    have b8 := H11.out.2.1.below' hb12
    have b10 := H11.out.2.2.below' hb12
    obtain ⟨A12, e12, -, hs4⟩ := (HC11.out.below hb12).sl
    cases e12
    have hs11 := HS11.out.below hb12
    have hsm := samePairs_any _ _ _ _ _ _ pl pl w12 hs4 hs11 (by omega) (by omega)
    rw [decide_eq_true rfl] at hsm
    have HSm := Hdz hsm
    have HB12 := Hdz (HB11.out.trans (hb12.mono HB11.out.size))
    have x0 := b6.cell 0
    have x1 := b6.cell 1
    have x2 := b6.cell 2
    have y0 := b8.cell 0
    have y1 := b8.cell 1
    have y2 := b8.cell 2
    have z0 := b10.cell 0
    clear b6 b8 b10 hs4 hs11 hsm hb12
    rcases hez with rfl | rfl
    all_goals
     go_wp2_with (fail)
     go_must (refine HSm.out.mono ?_)
     rintro e w13 ⟨rfl, hb13⟩
     have HB13 := Hdz (HB12.out.trans (hb13.mono HB12.out.size))
     clear hb13
     go_wp2_with (fail)
     go_ret
     exact ⟨rfl, HB13.out⟩
end Go.Ev
namespace Go.Proofs.YtmnniabfbelpbaaGreatDoor
open Go.ChangeShapes Go.WideShapes Go.ChangeAt Go.RowKit
theorem ownKvGets : ownKnob Tryz.prog.godebug = none := by kernel_rfl
set_option maxRecDepth 100000 in
theorem kvGets_lifted (os : Os) (started : os.Started) (H : Type) (enc : TypeId × Value → H) :
  ReturnsInHanded {} Tryz.checked os 5 .any (fun w args => (Rows.kvGetsSpec.pre enc Tryz.prog Tryz.f5 [] false w args ∧ laidMetH Tryz.prog Rows.kvGetsRow.laid w) ∧ sizedMet enc Tryz.prog Tryz.f5 (OpenSpec.ofChange Rows.kvGetsSpec) false w args)
   (Rows.kvGetsSpec.post enc Tryz.prog Tryz.f5 false true false false) := by
 refine returnsInHanded_of_change_and (C := Tryz.checked) (X := fun w _ => laidMetH Tryz.prog Rows.kvGetsRow.laid w) (fun _ _ _ hh h => h.of_heap hh) ownKvGets started (by kernel_rfl) Tryz.func5
  (ChangeSpec.witness_shaped (enc := enc) (C := Tryz.checked) (os := os) (X := fun w _ => laidMetH Tryz.prog Rows.kvGetsRow.laid w) false (World.laidAll Tryz.prog os Rows.kvGetsRow.laid) #[.slice none 0 0, .string ByteArray.empty, .int .i64 0] 8 (World.laidAll_os _ _ _)
   (World.shaped_of_ZipB (by kernel_rfl) (by kernel_rfl)) (by kernel_rfl) (by kernel_rfl) (by kernel_rfl)
   (by rw [MakeChecks.laidMetH_plain _ _ _ (by kernel_rfl)]; exact laidMet_laidAll _ (by kernel_rfl) (by kernel_rfl))) ?_
 intro W base args ds gs before hval0 hW _ _ hL _
 have hval : ∀ (j : Nat) t v, Tryz.f5.params[j]? = some t → args[j]? = some v → Value.okWide Tryz.prog W .any base t v := hval0
 have hW' := hW
 obtain ⟨p, q, hA0, hV, rfl, _, _⟩ := hW
 have hA : DataW.TrodAll enc Tryz.prog W 0 (fun _ => true) true Tryz.f5.params.toList args.toList ds p := hA0
 rw [Tryz.params5] at hA hval
 obtain ⟨v0, vs0, d0, ds0, p0, r0, hargs, rfl, rfl, h0, hr0⟩ := trodAll_cons hA
 obtain ⟨v1, vs1, d1, ds1, p1, r1, rfl, rfl, rfl, h1, hr1⟩ := trodAll_cons hr0
 obtain ⟨v2, vs2, d2, ds2, p2, r2, rfl, rfl, rfl, h2, hr2⟩ := trodAll_cons hr1
 obtain ⟨rfl, rfl, rfl⟩ := trodAll_nil hr2
 obtain rfl : args = #[v0, v1, v2] := by cases args; simp_all
 clear hargs hr0 hr1 hr2
 obtain ⟨rfl, rfl⟩ := trodVars_none hV
 have e0 : ∀ x : ByteArray, x.size ≤ maxLen → x.data.toList.length ≤ 9223372036854775807 := fun x hx => by
  have e : x.data.toList.length = x.size := Array.length_toList
  unfold maxLen at hx
  omega
 have e2 : ∀ x : ByteArray, Ev.strV x.data.toList = .string x := fun x => by
  show Value.string ⟨x.data.toList.toArray⟩ = _
  rw [Array.toArray_toList]
 have h0k := h0
 obtain ⟨pa0, l0, c0, rfl⟩ := okWide_slice Tryz.underlying22 (hval 0 22 v0 rfl rfl)
 obtain ⟨fuel0, hf0⟩ := h0
 obtain ⟨ops0, hops0, hgood0⟩ := Ev.slice_kops Tryz.underlying22 Tryz.underlying36 (by kernel_rfl) rfl rfl rfl rfl rfl rfl rfl rfl rfl rfl rfl rfl (by kernel_rfl) (by kernel_rfl) (by kernel_rfl) (by kernel_rfl) (by kernel_rfl) (by kernel_rfl) Tryz.underlying3 Tryz.underlying3 Tryz.underlying3 Tryz.underlying9 Tryz.underlying9 Tryz.underlying9 hf0
 obtain ⟨k1, rfl, rfl, rfl, hk1⟩ := Go.ChangeMaps.open_string Tryz.underlying9 (hval 1 9 v1 rfl rfl) h1
 obtain ⟨m2, rfl, rfl, rfl, hm2⟩ := open_int Tryz.underlying3 (hval 2 3 v2 rfl rfl) h2
 simp only [List.append_nil, List.nil_append] at hW'
 have hlt0 : ∀ x ∈ p0, x.block < W.heap.size := fun x hx => hW'.lt x (by simp [hx])
 have hcall := Ev.gets_walk pa0 l0 c0 ops0 k1.data.toList m2 W hops0 hgood0 (e0 k1 hk1) (Ev.i64_wfK hm2)
 simp only [e2] at hcall
 refine hcall.mono fun e W' ⟨hret, hw⟩ => ?_
 subst hret
 have hT0 := Below.trod (by kernel_rfl) (by kernel_rfl) (of_decide_eq_true (by kernel_rfl)) h0k hw hlt0
 have hTs := trodAll_cons_mk hT0 (trodAll_cons_mk (Go.ChangeMaps.shut_string Tryz.underlying9 hk1) (trodAll_mk1 (shut_int Tryz.underlying3 hm2)))
 exact ⟨_, rfl, _, _, _, [], p0, [], hW', trodAll_mk1 (shut_bool Tryz.underlying4 true), (by
  simp only [List.append_nil, List.nil_append] at hTs ⊢
  exact hTs), rfl, hw.frame _, fun h => by cases h⟩
end Go.Proofs.YtmnniabfbelpbaaGreatDoor
namespace Go.Proofs.YtmnniabfbelpbaaGreatDoor
open Go.ChangeShapes Go.WideShapes Go.ChangeAt Go.RowKit
set_option maxHeartbeats 40000000 in
theorem kvGets_facts : joinedFacts Tryz.prog 5 Tryz.f5 Rows.kvGetsSpec Rows.kvGetsRow = true := by kernel_rfl
set_option maxHeartbeats 40000000 in
theorem kvGets_row : Rows.KvGetsSaid :=
 OpenClaim.holds_of_wide 5 Tryz.f5 rfl rfl rfl rfl rfl rfl rfl ⟨rfl, rfl, rfl, rfl, rfl⟩ rfl rfl rfl rfl rfl (by as_aux_lemma => kernel_rfl) Tryz.func5 kvGets_facts
  (of_decide_eq_true (by as_aux_lemma => kernel_rfl)) (by unfold Func.isWrapper; first | (rw [if_pos (by decide +kernel)]; kernel_rfl) | (rw [if_neg (by decide +kernel)]; exact ⟨rfl, rfl⟩))
  (fun os started H enc _ => kvGets_lifted os started H enc)
set_option maxHeartbeats 40000000 in
theorem kvGets_holds : Rows.KvGetsCardSaid :=
 Claim7.holds_tied_plain_at .later [] [.data, .pinned] true (true, "00bae5fdb1bd8957596b29331fe82d4053fd64e08923aa35f759d8d70aa7d9eb") true kvGets_row (fun _ h => by cases h) (by as_aux_lemma => kernel_rfl) (fun _ h => by cases h) kvGets_row_tie rfl ⟨rfl, rfl⟩ (by as_aux_lemma => kernel_rfl) rfl
  (fun f fn hf hfn => by
   obtain rfl : f = 5 := Option.some.inj ((show Tryz.prog.funcNamed "arboretum/arboretumlaw25.KvGets" = some 5 by as_aux_lemma => kernel_rfl).symm.trans hf) |>.symm
   obtain rfl : fn = Tryz.f5 := (Option.some.inj (Tryz.func5.symm.trans hfn)).symm
   exact ⟨by as_aux_lemma => kernel_rfl, fun j t ht => by
    rw [Tryz.params5] at ht
    have hm : t ∈ [22, 9, 3] := by simpa using Array.mem_of_getElem? ht
    have hall : ([22, 9, 3].all fun u => !Tryz.prog.wantsStandIn u) = true := by as_aux_lemma => kernel_rfl
    exact (show Tryz.prog.wantsStandIn t = false by simpa using List.all_eq_true.1 hall t hm)⟩)
  (by as_aux_lemma => kernel_rfl)
#print axioms kvGets_holds
end Go.Proofs.YtmnniabfbelpbaaGreatDoor
