/-
  Texts of this claim.
-/
import Derived.Test.YtmnniabfbelpbaaGreatDoorMGwAlive25
set_option linter.unusedVariables false
set_option linter.unusedSimpArgs false
namespace Go.Ev
open Go.Proofs Go.RowKit
def opPutW (key now : Bytes) : KOp := ⟨1, 1, 1, key, now, []⟩
def opSwapW (key val old : Bytes) : KOp := ⟨3, 1, 2, key, val, old⟩
def SwapC (there : Bool) (now old val : Bytes) (e : Int) (v : Bytes) (ge : Int) (gv : Bytes) : Prop :=
 (there = false ∧ e = 7 ∧ v = [] ∧ ge = 7 ∧ gv = []) ∨ (there = true ∧ now = old ∧ e = 0 ∧ v = [] ∧ ge = 0 ∧ gv = val) ∨ (there = true ∧ now ≠ old ∧ e = 26 ∧ v = now ∧ ge = 0 ∧ gv = now)
def SwapP (there : Bool) (key now old val : Bytes) (F : Nat → Prop) (bb : Nat) (W : World) (r : Ending) (w' : World) : Prop :=
 ∃ e v ge gv D q l, SwapC there now old val e v ge gv ∧ r = .returned (.tuple #[rp e v 0, .int .i64 0]) ∧ Sn D F bb q 1 l w' ∧ Keeps F W w' ∧ q ≤ 11 ∧ (getR D.2 key).1 = ge ∧ (getR D.2 key).2 = gv
section
variable {key now old val : Bytes} (h1 : 1 ≤ key.length) (h2 : key.length ≤ 38) (h3 : now.length ≤ 900) (h4 : old.length ≤ 900) (h5 : val.length ≤ 900)
include h1 h2 h3 in
theorem validPutW : validK (opPutW key now) = 0 := by
 have a : ¬ 900 < now.length := by omega
 have hr : rightK (opPutW key now) = true := by simp [rightK, plainO, keyK, opPutW, h1, h2]
 unfold validK
 rw [hr]
 simp [opPutW, a]
include h1 h2 h4 h5 in
theorem validSwapW : validK (opSwapW key val old) = 0 := by
 have a : ¬ 900 < val.length := by omega
 have b : ¬ 900 < old.length := by omega
 have hr : rightK (opSwapW key val old) = true := by simp [rightK, plainO, keyK, opSwapW, h1, h2]
 unfold validK
 rw [hr]
 simp [opSwapW, a, b]
include h2 h3 in
theorem goodPutW : GoodK (opPutW key now) := ⟨by simp [I64, opPutW], by simp [I64, opPutW], by simp only [opPutW]; omega, by simp only [opPutW]; omega, by simp [opPutW]⟩
include h2 h4 h5 in
theorem goodSwapW : GoodK (opSwapW key val old) := ⟨by simp [I64, opSwapW], by simp [I64, opSwapW], by simp only [opSwapW]; omega, by simp only [opSwapW]; omega, by simp only [opSwapW]; omega⟩
include h1 h2 h4 h5 in
theorem doSwap0 : doK ((0, []), 1, [(1, ⟨0, 0, 0, 0, []⟩)]) (opSwapW key val old) = ((7, [], 0), ((0, []), 1, [(1, ⟨0, 2, 7, 0, []⟩)])) := by
 unfold doK
 rw [validSwapW h1 h2 h4 h5]
 simp [opSwapW, lookS, getS, setS, chgK, getP]
include h1 h2 h3 in
theorem doPutW : doK ((0, []), 1, [(1, ⟨0, 0, 0, 0, []⟩)]) (opPutW key now) = ((0, [], 0), ((1, [(key, now)]), 1, [(1, ⟨0, 1, 0, 0, []⟩)])) := by
 unfold doK
 rw [validPutW h1 h2 h3]
 simp [opPutW, lookS, getS, setS, chgK, insP]
include h1 h2 h4 h5 in
theorem doSwap1 (hne : now ≠ old) : doK ((1, [(key, now)]), 1, [(1, ⟨0, 1, 0, 0, []⟩)]) (opSwapW key val old) = ((26, now, 0), ((1, [(key, now)]), 1, [(1, ⟨0, 2, 26, 0, now⟩)])) := by
 unfold doK
 rw [validSwapW h1 h2 h4 h5]
 simp [opSwapW, lookS, getS, setS, chgK, getP, hne]
include h1 h2 h4 h5 in
theorem doSwap2 : doK ((1, [(key, old)]), 1, [(1, ⟨0, 1, 0, 0, []⟩)]) (opSwapW key val old) = ((0, [], 0), ((2, [(key, val)]), 1, [(1, ⟨0, 2, 0, 0, []⟩)])) := by
 unfold doK
 rw [validSwapW h1 h2 h4 h5]
 simp [opSwapW, lookS, getS, setS, chgK, getP, insP, lessB_irrefl]
end
section
variable {key now old val : Bytes} (h1 : 1 ≤ key.length) (h2 : key.length ≤ 38) (h3 : now.length ≤ 900) (h4 : old.length ≤ 900) (h5 : val.length ≤ 900) {F : Nat → Prop} {bb : Nat} {W : World}
include h1 h2 h4 h5 in
theorem swap0 (now : Bytes) (hS : Sn (0, []) F bb 5 1 [(1, ⟨0, 0, 0, 0, []⟩)] W) : Calls Tryz.prog 9 #[ptrV bb, .agg #[.int .i64 3, .int .i64 1, .int .i64 2, strV key, strV val, strV old]] W (SwapP false key now old val F bb W) := by
 refine (hS.doIs (by omega) (opSwapW key val old) (goodSwapW h2 h4 h5) (by omega) (fun x hx => by cases hx) (by simp [ndN, sumV, insP, opSwapW]; omega) (validSwapW h1 h2 h4 h5) (.inr ⟨⟨_, rfl, by simp [opSwapW]⟩, .inr (.inr rfl)⟩) (doSwap0 h1 h2 h4 h5)).mono ?_
 rintro r w' ⟨hr, hs, hk⟩
 exact ⟨_, _, 7, [], _, _, _, .inl ⟨rfl, rfl, rfl, rfl, rfl⟩, hr, hs, hk, by omega, rfl, rfl⟩
include h1 h2 h3 h4 h5 in
theorem swap1 (hS : Sn (1, [(key, now)]) F bb 8 1 [(1, ⟨0, 1, 0, 0, []⟩)] W) : Calls Tryz.prog 9 #[ptrV bb, .agg #[.int .i64 3, .int .i64 1, .int .i64 2, strV key, strV val, strV old]] W (SwapP true key now old val F bb W) := by
 by_cases he : now = old
 ·subst he
  refine (hS.doIs (by omega) (opSwapW key val now) (goodSwapW h2 h4 h5) (by omega) (fun x hx => by simp at hx; subst hx; exact h3) (by simp [ndN, sumV, insP, opSwapW, lessB_irrefl]; omega) (validSwapW h1 h2 h4 h5) (.inr ⟨⟨_, rfl, by simp [opSwapW]⟩, .inr (.inr rfl)⟩) (doSwap2 h1 h2 h4 h5)).mono ?_
  rintro r w' ⟨hr, hs, hk⟩
  exact ⟨_, _, 0, val, _, _, _, .inr (.inl ⟨rfl, rfl, rfl, rfl, rfl, rfl⟩), hr, hs, hk, by omega, by simp [getR, getP], by simp [getR, getP]⟩
 ·refine (hS.doIs (by omega) (opSwapW key val old) (goodSwapW h2 h4 h5) (by omega) (fun x hx => by simp at hx; subst hx; exact h3) (by simp [ndN, sumV, insP, opSwapW, lessB_irrefl]; omega) (validSwapW h1 h2 h4 h5) (.inr ⟨⟨_, rfl, by simp [opSwapW]⟩, .inr (.inr rfl)⟩) (doSwap1 h1 h2 h4 h5 he)).mono ?_
  rintro r w' ⟨hr, hs, hk⟩
  exact ⟨_, _, 0, now, _, _, _, .inr (.inr ⟨rfl, he, rfl, rfl, rfl, rfl⟩), hr, hs, hk, by omega, by simp [getR, getP], by simp [getR, getP]⟩
end
set_option maxHeartbeats 16000000 in
set_option maxRecDepth 100000 in
theorem swaps_walk (key now old val : Bytes) (there : Bool) (w : World) (hk : key.length ≤ 9223372036854775807) (hn : now.length ≤ 9223372036854775807) (ho : old.length ≤ 9223372036854775807) (hv : val.length ≤ 9223372036854775807) :
  Calls Tryz.prog 4 #[strV key, strV now, strV old, strV val, .bool there] w (TrueB w) := by
 have HAl : Hid (∀ W, Calls Tryz.prog 7 #[] W (TrueB W)) := fun W => alive25 W
 obtain ⟨nk, hnk⟩ : ∃ n, key.length = n := ⟨_, rfl⟩
 obtain ⟨nn, hnn⟩ : ∃ n, now.length = n := ⟨_, rfl⟩
 obtain ⟨no, hno⟩ : ∃ n, old.length = n := ⟨_, rfl⟩
 obtain ⟨nv, hnv⟩ : ∃ n, val.length = n := ⟨_, rfl⟩
 rw [hnk] at hk
 rw [hnn] at hn
 rw [hno] at ho
 rw [hnv] at hv
 by_cases hc : 1 ≤ nk ∧ nk ≤ 38 ∧ nn ≤ 900 ∧ no ≤ 900 ∧ nv ≤ 900
 case neg =>
  have hcs : (nk : Int) < 1 ∨ (¬ (nk : Int) < 1 ∧ (38 : Int) < (nk : Int)) ∨ (¬ (nk : Int) < 1 ∧ ¬ (38 : Int) < (nk : Int) ∧ (900 : Int) < (nn : Int)) ∨ (¬ (nk : Int) < 1 ∧ ¬ (38 : Int) < (nk : Int) ∧ ¬ (900 : Int) < (nn : Int) ∧ (900 : Int) < (no : Int)) ∨ (¬ (nk : Int) < 1 ∧ ¬ (38 : Int) < (nk : Int) ∧ ¬ (900 : Int) < (nn : Int) ∧ ¬ (900 : Int) < (no : Int) ∧ (900 : Int) < (nv : Int)) := by omega
  clear hc
  rcases hcs with d0 | ⟨d0, d1⟩ | ⟨d0, d1, d2⟩ | ⟨d0, d1, d2, d3⟩ | ⟨d0, d1, d2, d3, d4⟩
  all_goals
   go_enter Tryz.func4, Tryz.ntmps4
   go_wp2_with (fail)
   go_must (refine (HAl.out _).mono ?_)
   rintro e w2 ⟨rfl, hb2⟩
   have HB := Hdz hb2
   clear hb2
   go_wp2_with (fail)
   go_ret
   exact ⟨rfl, HB.out⟩
 case pos =>
  have HL : Hid (1 ≤ key.length ∧ key.length ≤ 38 ∧ now.length ≤ 900 ∧ old.length ≤ 900 ∧ val.length ≤ 900) := by rw [hnk, hnn, hno, hnv]; exact hc
  have d0 : ¬ (nk : Int) < 1 := by omega
  have d1 : ¬ (38 : Int) < (nk : Int) := by omega
  have d2 : ¬ (900 : Int) < (nn : Int) := by omega
  have d3 : ¬ (900 : Int) < (no : Int) := by omega
  have d4 : ¬ (900 : Int) < (nv : Int) := by omega
  clear hc
  go_enter Tryz.func4, Tryz.ntmps4
  go_wp2_with (fail)
  go_must (refine (begin25 w).mono ?_)
  rintro e w1 ⟨bb, u, rfl, hS, hu, hb1⟩
  obtain ⟨A, c, rfl, -⟩ := Sl.of_own hu
  have HR := Hdz (hS.doIs (by omega) opReg goodReg (by omega) (fun x hx => by cases hx) (by simp [ndN, sumV, insP, opReg]) (by rfl) (.inl rfl) doReg)
  have HB1 := Hdz hb1
  clear hS hu hb1
  go_wp2_with (fail)
  go_must (refine HR.out.mono ?_)
  rintro e w2 ⟨rfl, hS, hk2⟩
  have HB2 := Hdz (HB1.out.trans (hk2.base HB1.out.size fun k e => e))
  cases there
  case' false =>
   have HSw := Hdz (swap0 HL.out.1 HL.out.2.1 HL.out.2.2.2.1 HL.out.2.2.2.2 now hS)
   clear hS hk2
   go_wp2_with (fail)
  case' true =>
   have HR2 := Hdz (hS.doIs (by omega) (opPutW key now) (goodPutW HL.out.2.1 HL.out.2.2.1) (by omega) (fun x hx => by cases hx) (by have := HL.out; simp [ndN, sumV, insP, opPutW]; omega) (validPutW HL.out.1 HL.out.2.1 HL.out.2.2.1) (.inr ⟨⟨_, rfl, by simp [opPutW]⟩, .inl rfl⟩) (doPutW HL.out.1 HL.out.2.1 HL.out.2.2.1))
   clear hS hk2
   go_wp2_with (fail)
   go_must (refine HR2.out.mono ?_)
   rintro e w3 ⟨rfl, hS, hk3⟩
   replace HB2 := Hdz (HB2.out.trans (hk3.base HB2.out.size fun k e => e))
   have HSw := Hdz (swap1 HL.out.1 HL.out.2.1 HL.out.2.2.1 HL.out.2.2.2.1 HL.out.2.2.2.2 hS)
   clear hS hk3
   go_wp2_with (fail)
  all_goals
   go_must (refine HSw.out.mono ?_)
   rintro e w4 ⟨e1, v1, ge, gv, D, q, l, hC, rfl, hS, hk4, hq, eg1, eg2⟩
   have HB4 := Hdz (HB2.out.trans (hk4.base HB2.out.size fun k e => e))
   obtain ⟨w5, hw5⟩ := nmz (w4.alloc (.cells #[.int .i64 e1, strV v1, .int .i64 0] 32))
   obtain ⟨g14, hg14⟩ := nmz (w4.heap.size)
   have hba : Below w4.heap.size w4 w5 := by rw [← hw5]; exact (Below.refl _ _).alloc (Nat.le_refl _) _
   have b14 : Blk w5 g14 32 #[.int .i64 e1, strV v1, .int .i64 0] := by rw [← hw5, ← hg14]; exact Blk.new _ _ _
   have HB5 := Hdz (HB4.out.trans (hba.mono HB4.out.size))
   have HG := Hdz ((hS.below hba).kvGet (by omega) key HL.out.1 (by have := HL.out.2.1; omega))
   rw [eg1, eg2] at HG
   have H14 := Hdz b14
   have HC := Hdz hC
   have HW5 := Hdz (Anz hw5 hg14)
   clear hS hk4 hba b14 hw5 hg14 eg1 eg2 hC hq
   go_wp2_with (fail)
   rw [HW5.out.1, HW5.out.2]
   go_must (refine HG.out.mono ?_)
   rintro e w6 ⟨rfl, hb6⟩
   obtain ⟨w7, hw7⟩ := nmz (w6.alloc (.cells #[.int .i64 ge, strV gv, .int .i64 0] 32))
   obtain ⟨g16, hg16⟩ := nmz (w6.heap.size)
   have hba : Below w6.heap.size w6 w7 := by rw [← hw7]; exact (Below.refl _ _).alloc (Nat.le_refl _) _
   have b16 : Blk w7 g16 32 #[.int .i64 ge, strV gv, .int .i64 0] := by rw [← hw7, ← hg16]; exact Blk.new _ _ _
   have hb7 := hb6.trans (hba.mono hb6.size)
   have HB7 := Hdz (HB5.out.trans (hb7.mono HB5.out.size))
   have H7 := Hdz (Anz (H14.out.below' hb7) b16)
   have HW7 := Hdz (Anz hw7 hg16)
   clear hb6 hba b16 hb7 hw7 hg16
   rcases HC.out with ⟨ht, rfl, rfl, rfl, rfl⟩ | ⟨ht, rfl, rfl, rfl, rfl, rfl⟩ | ⟨ht, hne, rfl, rfl, rfl, rfl⟩
   all_goals first | (cases ht; done) | skip
   all_goals try have hne1 := beq_eq_false_iff_ne.2 hne
   all_goals try have hne2 := bne_iff_ne.2 hne
   all_goals try (have HNe := Hdz hne; clear hne)
   all_goals
    clear ht HC
    go_wp2_with (fail)
    rw [HW7.out.1, HW7.out.2]
    go_must (refine (HAl.out _).mono ?_)
    rintro e w8 ⟨rfl, hb8⟩
    have b14 := H7.out.1.below' hb8
    have b16 := H7.out.2.below' hb8
    have x0 := b14.cell 0
    have x1 := b14.cell 1
    have x2 := b14.cell 2
    have z0 := b16.cell 0
    have z1 := b16.cell 1
    have z2 := b16.cell 2
    have HB8 := Hdz (HB7.out.trans (hb8.mono HB7.out.size))
    clear hb8 b14 b16
    go_wp2_with (fail)
    go_ret
    exact ⟨rfl, HB8.out⟩
end Go.Ev
