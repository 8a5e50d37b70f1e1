/-
  Texts of this claim.
-/
import Derived.Test.YtjdimpnonjjnaaaGreatDoorMGwAlive24
import Derived.ChangeSlices
set_option linter.unusedVariables false
set_option linter.unusedSimpArgs false
namespace Go.Ev
open Go.Proofs Go.RowKit
def IntsAt (w : World) (v : Value) (l : List Int) : Prop := Sl w 1 v l.length (intsV l) ∧ l.length ≤ maxLen
theorem intsV_get {l : List Int} {i : Nat} (h : i < l.length) : (intsV l)[i]? = some (.int .i64 l[i]) := by
 unfold intsV
 rw [List.getElem?_map, List.getElem?_eq_getElem h]
 rfl
theorem regS_N {i : Nat} (hi : i < 40) : regS i (100 + ((i + 1 : Nat) : Int)) (sessN i) = sessN i ++ [(i + 1, ⟨100 + ((i + 1 : Nat) : Int), 0, 0, 0, []⟩)] := by
 unfold regS dropS
 rw [if_pos (by rw [sessN_len]; exact hi)]
set_option maxHeartbeats 16000000 in
set_option maxRecDepth 100000 in
theorem ends_walk (n : Int) (A : Option Addr) (m c : Nat) (gone : List Int) (w : World) (h : IntsAt w (.slice A m c) gone) :
  Calls Tryz.prog 4 #[.int .i64 n, .slice A m c] w (TrueB w) := by
 obtain ⟨hv, hml⟩ := h
 have hnn : m = gone.length := by obtain ⟨_, _, e, _⟩ := hv; cases e; rfl
 have HNN := Hdz hnn
 have HV : Hid (Sl w 1 (.slice A m c) m (intsV gone)) := by show Sl _ _ _ _ _; rw [hnn]; rw [hnn] at hv; exact hv
 have hn0 : m ≤ maxLen := by omega
 unfold maxLen at hn0
 clear hml hv hnn
 by_cases hg1 : n < 0
 ·have d1 : decide (n < 0) = true := decide_eq_true hg1
  go_enter Tryz.func4, Tryz.ntmps4
  go_wp2_with (fail)
  go_must (refine (alive24 _).mono ?_)
  rintro e w2 ⟨rfl, hb2⟩
  have HB := Hdz hb2
  clear hb2
  go_wp2_with (fail)
  go_ret
  exact ⟨rfl, HB.out⟩
 have d1 : decide (n < 0) = false := decide_eq_false hg1
 by_cases hg2 : 30 < n
 ·have d2 : decide (30 < n) = true := decide_eq_true hg2
  go_enter Tryz.func4, Tryz.ntmps4
  go_wp2_with (fail)
  go_must (refine (alive24 _).mono ?_)
  rintro e w2 ⟨rfl, hb2⟩
  have HB := Hdz hb2
  clear hb2
  go_wp2_with (fail)
  go_ret
  exact ⟨rfl, HB.out⟩
 have d2 : decide (30 < n) = false := decide_eq_false hg2
 by_cases hg3 : 40 < m
 ·have d3 : (40 : Int) < (m : Int) := by omega
  go_enter Tryz.func4, Tryz.ntmps4
  go_wp2_with (fail)
  go_must (refine (alive24 _).mono ?_)
  rintro e w2 ⟨rfl, hb2⟩
  have HB := Hdz hb2
  clear hb2
  go_wp2_with (fail)
  go_ret
  exact ⟨rfl, HB.out⟩
 have d3 : ¬ (40 : Int) < (m : Int) := by omega
 obtain ⟨N, rfl⟩ : ∃ N : Nat, n = (N : Int) := ⟨n.toNat, by omega⟩
 have hN30 : N ≤ 30 := by omega
 clear hg1 hg2 hn0
 go_enter Tryz.func4, Tryz.ntmps4
 go_wp2_with (fail)
 go_must (refine (begin24 w).mono ?_)
 rintro e w1 ⟨bb, u, rfl, hS, hu, hb1⟩
 obtain ⟨Au, cu, rfl, -⟩ := Sl.of_own hu
 have HS1 := Hdz hS
 have HB1 := Hdz hb1
 clear hS hu hb1 d1 d2 d3
 go_wp2_with (fail)
 go_loopg [8] N (fun gk s8 wr => ∃ i : Nat, s8 = .int .i64 ((i + 1 : Nat) : Int) ∧ i + gk = N ∧ Hid (Sn (0, []) (fun k => w.heap.size ≤ k) bb (2 + 5 * i) i (sessN i) wr) ∧ Hid (Below w.heap.size w wr))
 case atStart => exact ⟨0, rfl, by omega, HS1.out, HB1.out⟩
 case round =>
  clear HS1 HB1
  obtain ⟨i, rfl, hi, hS, hbw⟩ := hrel
  obtain ⟨j, hj⟩ := nmz (i + 1)
  have HJ := Hdz hj
  by_cases h1 : j ≤ N
  ·have h1' : (j : Int) ≤ (N : Int) := by omega
   have hw1 : IntKind.i64.wrap ((j : Int) + 1) = (j : Int) + 1 := IntWalk.i64_in _ (by omega)
   have hw2 : IntKind.i64.wrap (100 + (j : Int)) = 100 + (j : Int) := IntWalk.i64_in _ (by omega)
   have hR := hS.out.register (by omega) (100 + (j : Int)) (by unfold I64; omega) (by omega)
   rw [hj] at hR
   have HR := Hdz hR
   rw [hj]
   clear hR hj
   go_wp2_with (fail)
   go_must (refine HR.out.mono ?_)
   rintro e w3 ⟨rfl, hS3, hb3⟩
   have hreg : regS i (100 + (j : Int)) (sessN i) = sessN i ++ [(j, ⟨100 + (j : Int), 0, 0, 0, []⟩)] := by
    have := regS_N (i := i) (by have := HJ.out; omega)
    rw [HJ.out] at this
    exact this
   rw [hreg] at hS3
   have hne : ∀ x ∈ sessN i, x.1 ≠ j := fun x hx => by have := (sessN_mem hx).2.1; have := HJ.out; omega
   have HSv := Hdz (hS3.saveNew (x := ⟨100 + (j : Int), 0, 0, 0, []⟩) (by have := HJ.out; omega) j (by have := HJ.out; omega) (by omega) 3 ⟨0, 0, 0, (j : Int), []⟩ (getS_snoc hne) (by show (0 : Int) < 3; omega) (by omega) (by unfold I64; omega) (by refine ⟨?_, ?_, ?_, ?_, ?_⟩ <;> simp [I64] <;> omega) (by simp))
   have hset : setS j (newS ⟨100 + (j : Int), 0, 0, 0, []⟩ ⟨0, 0, 0, (j : Int), []⟩ 3) (sessN i ++ [(j, ⟨100 + (j : Int), 0, 0, 0, []⟩)]) = sessN j := by
    rw [setS_snoc hne]
    have := sessN_snoc i
    rw [HJ.out] at this
    rw [this]
    rfl
   rw [hset] at HSv
   have HB3 := Hdz (hbw.out.trans (hb3.base (Nat.le_trans (Nat.le_refl _) hbw.out.size) fun k e => e))
   clear hS3 hb3 hreg hne hset
   go_wp2_with (fail)
   go_must (refine HSv.out.mono ?_)
   rintro e w4 ⟨rfl, hS4, hb4⟩
   have HE : Hid (Sn (0, []) (fun k => w.heap.size ≤ k) bb (2 + 5 * j) j (sessN j) w4) := hS4.upto (by have := HJ.out; omega)
   have HB4 := Hdz (HB3.out.trans (hb4.base HB3.out.size fun k e => e))
   clear hS4 hb4
   go_wp2_with (fail)
   go_roundg (gk - 1)
   case measure => have := HJ.out; omega
   case rel => exact ⟨j, by simp, by have := HJ.out; omega, HE.out, HB4.out⟩
  ·have h1' : ¬ (j : Int) ≤ (N : Int) := by omega
   have hiN : N = i := by omega
   subst hiN
   rw [hj]
   have HS2 := Hdz hS.out
   have HB2 := Hdz hbw.out
   clear hS hbw hi hj HJ
   go_wp2_with (fail)
   obtain ⟨i0, hi0, hz0, hz1, hz2⟩ := info_parts infoInt
   go_loopg [11, 12] m (fun gk s11 s12 wr => ∃ (i q ne : Nat) (E : List Int) (l : List (Nat × Ses)) (Av : Option Addr) (cv : Nat), s11 = .slice Av ne cv ∧ s12 = .int .i64 (i : Int) ∧ gk = m - i ∧ i ≤ m ∧ q ≤ 200 + i ∧ ne ≤ N ∧ Hid (wr.ownsRow w.heap.size 3 1 (.slice Av ne cv) ne (intsV E)) ∧ Hid (Sn (0, []) (Fv w.heap.size (.slice Av ne cv)) bb q N l wr) ∧ Hid (EndInv N E l ∧ E.length = ne) ∧ Hid (Below w.heap.size w wr))
   case atStart => exact ⟨0, _, 0, [], sessN N, none, 0, rfl, rfl, by omega, by omega, by omega, by omega, by show World.ownsRow _ _ _ _ _ _ _; exact World.ownsRow_nil _ _ _ _, HS2.out.with (fun k e => by cases e), ⟨EndInv.start N, rfl⟩, HB2.out⟩
   case round =>
    clear HS2 HB2
    obtain ⟨i, q, ne, E, l, Av, cv, rfl, rfl, hgk, him, hq, hne, hO, hS, hI, hbw⟩ := hrel
    obtain ⟨wo, rfl⟩ : ∃ wo, wo = wr := ⟨_, rfl⟩
    obtain ⟨go, rfl⟩ : ∃ g, g = gk := ⟨_, rfl⟩
    by_cases h1 : i < m
    ·have h1' : (i : Int) < (m : Int) := by omega
     have hi0' : (0 : Int) ≤ (i : Int) := by omega
     have hw1 : IntKind.i64.wrap ((i : Int) + 1) = (i : Int) + 1 := IntWalk.i64_in _ (by omega)
     have hiN : i < gone.length := by have := HNN.out; omega
     obtain ⟨A', c', e0, _, _, hcl⟩ := HV.out
     cases e0
     obtain ⟨blk, off, rfl, hbl, hcell⟩ := hcl (by omega)
     have x0 : w.cell? ⟨blk, off + i, none⟩ = some (.int .i64 gone[i]) := hcell _ _ (intsV_get hiN)
     obtain ⟨g, hg⟩ := nmz (gone[i])
     rw [hg] at x0
     have HXX : Hid (∀ W, Below w.heap.size w W → W.cell? ⟨blk, off + i, none⟩ = some (.int .i64 g)) := fun W hW => (hW.cell (p := ⟨blk, off + i, none⟩) hbl).trans x0
     have x1 := HXX.out wo hbw.out
     have HX : Hid (∀ W, Sn (0, []) (Fv w.heap.size (.slice Av ne cv)) bb q N l W → lookS l g = none → Calls Tryz.prog 11 #[ptrV bb, .int .i64 g] W fun e w' => e = .returned (.int .i64 24) ∧ Below W.heap.size W w') := fun W hs hno => hs.expireNo (by omega) g hno
     clear hcl hcell x0 hg hbl hiN
     by_cases hc1 : 1 ≤ g
     ·by_cases hc2 : g ≤ (N : Int)
      ·obtain ⟨kg, rfl⟩ : ∃ kg : Nat, g = (kg : Int) := ⟨g.toNat, by omega⟩
       go_wp2_with (fail)
       go_loopg [13, 14] ne (fun gk s13 s14 wr => ∃ (k : Nat) (b : Bool), s13 = .bool b ∧ s14 = .int .i64 (k : Int) ∧ gk = ne - k ∧ k ≤ ne ∧ Hid (b = true ↔ ∀ x ∈ E.take k, x ≠ (kg : Int)) ∧ Hid (Below wo.heap.size wo wr))
       case atStart => exact ⟨0, true, rfl, rfl, by omega, by omega, by show _ ↔ _; simp, Below.refl _ _⟩
       case round =>
        obtain ⟨k, b, rfl, rfl, hgk2, hk, hb, hbi⟩ := hrel
        obtain ⟨wi, rfl⟩ : ∃ wi, wi = wr := ⟨_, rfl⟩
        by_cases h2 : k < ne
        ·have h2' : (k : Int) < (ne : Int) := by omega
         have hw2 : IntKind.i64.wrap ((k : Int) + 1) = (k : Int) + 1 := IntWalk.i64_in _ (by omega)
         have hkE : k < E.length := by have := hI.out.2; omega
         have htk := List.take_append_getElem hkE
         cases b with
         | false =>
          have HN : Hid (false = true ↔ ∀ x ∈ E.take (k + 1), x ≠ (kg : Int)) := by
           refine ⟨fun h => (by cases h), fun h => hb.out.2 fun x hx => h x ?_⟩
           rw [← htk]
           exact List.mem_append_left _ hx
          clear htk
          go_wp2_with (fail)
          refine wRz ?_
          try simp only [lAz]
          refine tA 0 ?_; try simp only [lAz]
          refine tA 1 ?_; try simp only [lAz]
          refine sA 2 ?_; try simp only [lAz]
          refine sA 3 ?_; try simp only [lAz]
          refine sA 4 ?_; try simp only [lAz]
          refine sA 5 ?_; try simp only [lAz]
          refine sA 6 ?_; try simp only [lAz]
          refine sA 7 ?_; try simp only [lAz]
          refine sA 8 ?_; try simp only [lAz]
          refine sA 9 ?_; try simp only [lAz]
          refine sA 10 ?_; try simp only [lAz]
          refine tA 11 ?_; try simp only [lAz]
          refine tA 12 ?_; try simp only [lAz]
          refine wDz ?_
          go_wp2_with (fail)
          go_roundg (ne - (k + 1))
          case measure => omega
          case rel => exact ⟨k + 1, false, rfl, by simp, by omega, by omega, HN.out, hbi.out.drew⟩
         | true =>
          have hk0 : (0 : Int) ≤ (k : Int) := by omega
          obtain ⟨_, _, e0, _, _, hcl⟩ := Sl.of_own (own_below hO.out hbi.out)
          cases e0
          obtain ⟨bl2, of2, rfl, _, hcell⟩ := hcl (by omega)
          obtain ⟨y, hy⟩ := nmz (E[k])
          have y0 : wi.drew.cell? ⟨bl2, of2 + k, none⟩ = some (.int .i64 y) := by rw [← hy]; exact hcell _ _ (intsV_get hkE)
          have y1 : wi.drew.cell? ⟨blk, off + i, none⟩ = some (.int .i64 (kg : Int)) := HXX.out wi (hbw.out.trans (hbi.out.mono hbw.out.size))
          rw [hy] at htk
          clear hcl hcell hy
          by_cases hyg : y = (kg : Int)
          ·have hyb : (y != (kg : Int)) = false := by simp [hyg]
           have HN : Hid (false = true ↔ ∀ x ∈ E.take (k + 1), x ≠ (kg : Int)) := by
            refine ⟨fun h => (by cases h), fun h => absurd hyg (h y ?_)⟩
            rw [← htk]
            simp
           clear htk hyg
           go_wp2_with (fail)
           refine wRz ?_
           try simp only [lAz]
           refine tA 0 ?_; try simp only [lAz]
           refine tA 1 ?_; try simp only [lAz]
           refine tA 2 ?_; try simp only [lAz]
           refine tA 3 ?_; try simp only [lAz]
           refine tA 4 ?_; try simp only [lAz]
           refine tA 6 ?_; try simp only [lAz]
           refine tA 7 ?_; try simp only [lAz]
           refine tA 8 ?_; try simp only [lAz]
           refine rA 5 (v := ?_) (hy := ?hy) ?_; case hy => (intro w hE; have q0 := hE.cell y0; go_simp; try with_reducible rfl)
           try simp only [lAz]
           refine rA 9 (v := ?_) (hy := ?hy) ?_; case hy => (intro w hE; have q0 := hE.cell y1; go_simp; try with_reducible rfl)
           try simp only [lAz]
           refine tA 10 ?_; try simp only [lAz]
           refine tA 11 ?_; try simp only [lAz]
           refine tA 12 ?_; try simp only [lAz]
           refine wDz ?_
           go_wp2_with (fail)
           go_roundg (ne - (k + 1))
           case measure => omega
           case rel => exact ⟨k + 1, false, rfl, by simp, by omega, by omega, HN.out, hbi.out.drew⟩
          ·have hyb : (y != (kg : Int)) = true := by simp [hyg]
           have HN : Hid (true = true ↔ ∀ x ∈ E.take (k + 1), x ≠ (kg : Int)) := by
            refine ⟨fun _ x hx => ?_, fun _ => rfl⟩
            rw [← htk] at hx
            rcases List.mem_append.1 hx with hx | hx
            ·exact hb.out.1 rfl x hx
            ·rw [List.mem_singleton] at hx
             rw [hx]
             exact hyg
           clear htk hyg
           go_wp2_with (fail)
           refine wRz ?_
           try simp only [lAz]
           refine tA 0 ?_; try simp only [lAz]
           refine tA 1 ?_; try simp only [lAz]
           refine tA 2 ?_; try simp only [lAz]
           refine tA 3 ?_; try simp only [lAz]
           refine tA 4 ?_; try simp only [lAz]
           refine tA 6 ?_; try simp only [lAz]
           refine tA 7 ?_; try simp only [lAz]
           refine tA 8 ?_; try simp only [lAz]
           refine rA 5 (v := ?_) (hy := ?hy) ?_; case hy => (intro w hE; have q0 := hE.cell y0; go_simp; try with_reducible rfl)
           try simp only [lAz]
           refine rA 9 (v := ?_) (hy := ?hy) ?_; case hy => (intro w hE; have q0 := hE.cell y1; go_simp; try with_reducible rfl)
           try simp only [lAz]
           refine tA 10 ?_; try simp only [lAz]
           refine tA 11 ?_; try simp only [lAz]
           refine tA 12 ?_; try simp only [lAz]
           refine wDz ?_
           go_wp2_with (fail)
           go_roundg (ne - (k + 1))
           case measure => omega
           case rel => exact ⟨k + 1, true, rfl, by simp, by omega, by omega, ⟨fun _ => HN.out.1 trivial, fun _ => rfl⟩, hbi.out.drew⟩
        ·have h2' : ¬ (k : Int) < (ne : Int) := by omega
         have hkn : E.take k = E := List.take_of_length_le (by have := hI.out.2; omega)
         have hbE := hb.out
         rw [hkn] at hbE
         clear hkn hb
         cases b with
         | false =>
          have hin : (kg : Int) ∈ E := by
           apply Decidable.byContradiction
           intro hh
           have := hbE.2 fun x hx e => hh (e ▸ hx)
           cases this
          have HNo : Hid (lookS l (kg : Int) = none) := by
           show lookS l (kg : Int) = none
           rw [lookS_nat (by omega) (by omega), hI.out.1.get, if_neg fun h => h.2.2 hin]
          clear hbE hin
          have HBi : Hid (Below w.heap.size w wi) := hbw.out.trans (hbi.out.mono hbw.out.size)
          have HSi := Hdz (hS.out.below hbi.out)
          have HOi := Hdz (own_below hO.out hbi.out)
          have x2 := HXX.out wi HBi.out
          have HE := Hdz (HX.out wi HSi.out HNo.out)
          clear hbi hO hS hbw
          go_wp2_with (fail)
          go_must (refine HE.out.mono ?_)
          rintro e w4 ⟨rfl, hb4⟩
          have HS4 := Hdz (HSi.out.below hb4)
          have HB4 := Hdz (HBi.out.trans (hb4.mono HBi.out.size))
          have HO4 := Hdz (own_below HOi.out hb4)
          clear hb4 x2
          go_wp2_with (fail)
          go_roundg (m - (i + 1))
          case measure => omega
          case rel => exact ⟨i + 1, q, ne, E, l, Av, cv, by simp, by simp, by omega, by omega, by omega, by omega, HO4.out, HS4.out, hI.out, HB4.out⟩
         | true =>
          have HNi : Hid ((kg : Int) ∉ E) := fun h => (hbE.1 rfl _ h) rfl
          clear hbE
          have HBi : Hid (Below w.heap.size w wi) := hbw.out.trans (hbi.out.mono hbw.out.size)
          have HSi := Hdz (hS.out.below hbi.out)
          have HOi := Hdz (own_below hO.out hbi.out)
          have x2 := HXX.out wi HBi.out
          have hgs : getS kg l = some (sesOf kg) := by rw [hI.out.1.get, if_pos ⟨by omega, by omega, HNi.out⟩]
          have HE := Hdz (HSi.out.expire (by omega) kg (by omega) (by omega) hgs)
          have HIn := Hdz (hI.out.1.step hS.out.ok (by omega) (by omega) HNi.out)
          have hlen := HIn.out.len
          have hlen0 := hI.out.1.len
          have hNe1 : ne + 1 ≤ N := by
           have := hI.out.2
           rw [List.length_append, List.length_cons, List.length_nil] at hlen
           omega
          have hnat : E.length = ne := hI.out.2
          have HNat := Hdz hnat
          clear hbi hO hS hbw hgs hlen hlen0 hnat
          go_wp2_with (fail)
          go_must (refine HE.out.mono ?_)
          rintro e w4 ⟨rfl, hS4, hk4⟩
          have HS4 := Hdz hS4
          have HB4 := Hdz (HBi.out.trans (hk4.base HBi.out.size fun k e => e.1))
          have HO4 := Hdz (own_keeps HOi.out hk4 fun k e h => h.2 e)
          have x3 := HXX.out w4 HB4.out
          clear hS4 hk4 x2
          go_wp2_with (at_builtin; go_must (refine wpList_append_at rfl _ _ 29 rfl w.heap.size 3 i0 _ 1 8 Tryz.underlying29 hi0 hz0 hz1 hz2 rfl (by decide) _ ne _ rfl (own_below HO4.out ((Below.refl _ w4).alloc (Nat.le_refl _) (.cells #[.int .i64 (kg : Int)] 3))) ⟨w4.heap.size, 0, none⟩ 1 1 [.int .i64 (kg : Int)] rfl rfl (row_new1 _ _ _ _ (by simp)) (by simp [Value.oneCell']) (by unfold maxLen; omega) (by omega) (by have := HB4.out.size; simp; omega) ?_))
          intro v5 w5 own5 hg5 hw5
          have hba : Below w4.heap.size w4 (w4.alloc (.cells #[.int .i64 (kg : Int)] 3)) := (Below.refl _ _).alloc (Nat.le_refl _) _
          have hbx : Below w.heap.size w (w4.alloc (.cells #[.int .i64 (kg : Int)] 3)) := HB4.out.trans (hba.mono HB4.out.size)
          have HB5 := Hdz (hbx.grown hg5 hbx.size (fun j hj => (HO4.out.lt j hj).1))
          have HS5 := Hdz ((HS4.out.below hba).turned hg5 (fun k e => (hw5 k e).imp id fun h => by simpa using h) own5)
          have hst : intsV E ++ [.int .i64 (kg : Int)] = intsV (E ++ [(kg : Int)]) := by simp [intsV]
          rw [hst] at own5
          obtain ⟨A5, c5, rfl, -⟩ := Sl.of_own own5
          have HO5 := Hdz own5
          clear own5 hg5 hw5 hbx hba hst x3
          go_wp2_with (fail)
          go_roundg (m - (i + 1))
          case measure => omega
          case rel => exact ⟨i + 1, q + 1, ne + 1, E ++ [(kg : Int)], delS kg l, A5, c5, by simp, by simp, by omega, by omega, by omega, by omega, HO5.out, HS5.out, ⟨HIn.out, by rw [List.length_append, HNat.out]; rfl⟩, HB5.out⟩
      ·have HNo : Hid (lookS l g = none) := by
        show lookS l g = none
        unfold lookS
        split
        ·rw [hI.out.1.get, if_neg (by omega)]
        ·rfl
       go_wp2_with (fail)
       go_loopg [13, 14] ne (fun gk s13 s14 wr => ∃ k : Nat, s13 = .bool false ∧ s14 = .int .i64 (k : Int) ∧ gk = ne - k ∧ k ≤ ne ∧ Hid (Below wo.heap.size wo wr))
       case atStart => exact ⟨0, rfl, rfl, by omega, by omega, Below.refl _ _⟩
       case round =>
        obtain ⟨k, rfl, rfl, hgk2, hk, hbi⟩ := hrel
        obtain ⟨wi, rfl⟩ : ∃ wi, wi = wr := ⟨_, rfl⟩
        by_cases h2 : k < ne
        ·have h2' : (k : Int) < (ne : Int) := by omega
         have hw2 : IntKind.i64.wrap ((k : Int) + 1) = (k : Int) + 1 := IntWalk.i64_in _ (by omega)
         go_wp2_with (fail)
         refine wRz ?_
         try simp only [lAz]
         refine tA 0 ?_; try simp only [lAz]
         refine tA 1 ?_; try simp only [lAz]
         refine sA 2 ?_; try simp only [lAz]
         refine sA 3 ?_; try simp only [lAz]
         refine sA 4 ?_; try simp only [lAz]
         refine sA 5 ?_; try simp only [lAz]
         refine sA 6 ?_; try simp only [lAz]
         refine sA 7 ?_; try simp only [lAz]
         refine sA 8 ?_; try simp only [lAz]
         refine sA 9 ?_; try simp only [lAz]
         refine sA 10 ?_; try simp only [lAz]
         refine tA 11 ?_; try simp only [lAz]
         refine tA 12 ?_; try simp only [lAz]
         refine wDz ?_
         go_wp2_with (fail)
         go_roundg (ne - (k + 1))
         case measure => omega
         case rel => exact ⟨k + 1, rfl, by simp, by omega, by omega, hbi.out.drew⟩
        ·have h2' : ¬ (k : Int) < (ne : Int) := by omega
         have HBi : Hid (Below w.heap.size w wi) := hbw.out.trans (hbi.out.mono hbw.out.size)
         have HSi := Hdz (hS.out.below hbi.out)
         have HOi := Hdz (own_below hO.out hbi.out)
         have x2 := HXX.out wi HBi.out
         have HE := Hdz (HX.out wi HSi.out HNo.out)
         clear hbi hO hS hbw
         go_wp2_with (fail)
         go_must (refine HE.out.mono ?_)
         rintro e w4 ⟨rfl, hb4⟩
         have HS4 := Hdz (HSi.out.below hb4)
         have HB4 := Hdz (HBi.out.trans (hb4.mono HBi.out.size))
         have HO4 := Hdz (own_below HOi.out hb4)
         clear hb4 x2
         go_wp2_with (fail)
         go_roundg (m - (i + 1))
         case measure => omega
         case rel => exact ⟨i + 1, q, ne, E, l, Av, cv, by simp, by simp, by omega, by omega, by omega, by omega, HO4.out, HS4.out, hI.out, HB4.out⟩
     ·have HNo : Hid (lookS l g = none) := by
       show lookS l g = none
       unfold lookS
       split
       ·rw [hI.out.1.get, if_neg (by omega)]
       ·rfl
      go_wp2_with (fail)
      go_loopg [13, 14] ne (fun gk s13 s14 wr => ∃ k : Nat, s13 = .bool false ∧ s14 = .int .i64 (k : Int) ∧ gk = ne - k ∧ k ≤ ne ∧ Hid (Below wo.heap.size wo wr))
      case atStart => exact ⟨0, rfl, rfl, by omega, by omega, Below.refl _ _⟩
      case round =>
       obtain ⟨k, rfl, rfl, hgk2, hk, hbi⟩ := hrel
       obtain ⟨wi, rfl⟩ : ∃ wi, wi = wr := ⟨_, rfl⟩
       by_cases h2 : k < ne
       ·have h2' : (k : Int) < (ne : Int) := by omega
        have hw2 : IntKind.i64.wrap ((k : Int) + 1) = (k : Int) + 1 := IntWalk.i64_in _ (by omega)
        go_wp2_with (fail)
        refine wRz ?_
        try simp only [lAz]
        refine tA 0 ?_; try simp only [lAz]
        refine tA 1 ?_; try simp only [lAz]
        refine sA 2 ?_; try simp only [lAz]
        refine sA 3 ?_; try simp only [lAz]
        refine sA 4 ?_; try simp only [lAz]
        refine sA 5 ?_; try simp only [lAz]
        refine sA 6 ?_; try simp only [lAz]
        refine sA 7 ?_; try simp only [lAz]
        refine sA 8 ?_; try simp only [lAz]
        refine sA 9 ?_; try simp only [lAz]
        refine sA 10 ?_; try simp only [lAz]
        refine tA 11 ?_; try simp only [lAz]
        refine tA 12 ?_; try simp only [lAz]
        refine wDz ?_
        go_wp2_with (fail)
        go_roundg (ne - (k + 1))
        case measure => omega
        case rel => exact ⟨k + 1, rfl, by simp, by omega, by omega, hbi.out.drew⟩
       ·have h2' : ¬ (k : Int) < (ne : Int) := by omega
        have HBi : Hid (Below w.heap.size w wi) := hbw.out.trans (hbi.out.mono hbw.out.size)
        have HSi := Hdz (hS.out.below hbi.out)
        have HOi := Hdz (own_below hO.out hbi.out)
        have x2 := HXX.out wi HBi.out
        have HE := Hdz (HX.out wi HSi.out HNo.out)
        clear hbi hO hS hbw
        go_wp2_with (fail)
        go_must (refine HE.out.mono ?_)
        rintro e w4 ⟨rfl, hb4⟩
        have HS4 := Hdz (HSi.out.below hb4)
        have HB4 := Hdz (HBi.out.trans (hb4.mono HBi.out.size))
        have HO4 := Hdz (own_below HOi.out hb4)
        clear hb4 x2
        go_wp2_with (fail)
        go_roundg (m - (i + 1))
        case measure => omega
        case rel => exact ⟨i + 1, q, ne, E, l, Av, cv, by simp, by simp, by omega, by omega, by omega, by omega, HO4.out, HS4.out, hI.out, HB4.out⟩
    ·have h1' : ¬ (i : Int) < (m : Int) := by omega
     have HS2 := Hdz hS.out
     have HB2 := Hdz hbw.out
     have HO2 := Hdz hO.out
     have HLi := Hdz (hS.out.list (by omega))
     obtain ⟨p, hp⟩ := nmz (l.length)
     have hpn : (N : Int) - (ne : Int) = (p : Int) := by have := hI.out.1.len; have := hI.out.2; omega
     have hwp : IntKind.i64.wrap (p : Int) = (p : Int) := IntWalk.i64_in _ (by have := hI.out.1.len; omega)
     have hp30 : p ≤ 30 := by have := hI.out.1.len; omega
     have HP := Hdz hp
     have hq2 : q ≤ 300 := by omega
     clear hS hbw hO h1 hgk him hp
     go_wp2_with (fail)
     go_must (refine HLi.out.mono ?_)
     rintro e w3 ⟨v, rfl, hown, hb3⟩
     rw [HP.out] at hown
     obtain ⟨Al, cl, rfl, -⟩ := Sl.of_own hown
     have HL3 := Hdz (Sl.of_own hown)
     have HS3 := Hdz (HS2.out.below hb3)
     have HB3 := Hdz (HB2.out.trans (hb3.mono HB2.out.size))
     have HO3 := Hdz (Sl.of_own (own_below HO2.out hb3))
     clear hown hb3
     go_wp2_with (fail)
     go_loopg [18] p (fun gk s18 wr => ∃ i3 : Nat, s18 = .int .i64 (i3 : Int) ∧ gk = p - i3 ∧ i3 ≤ p ∧ Hid (Below w3.heap.size w3 wr))
     case atStart => exact ⟨0, rfl, by omega, by omega, Below.refl _ _⟩
     case round =>
      obtain ⟨i3, rfl, hgk, hi3, hbr⟩ := hrel
      by_cases h1 : i3 < p
      ·have h1' : (i3 : Int) < (p : Int) := by omega
       have hi0' : (0 : Int) ≤ (i3 : Int) := by omega
       have hw1 : IntKind.i64.wrap ((i3 : Int) + 1) = (i3 : Int) + 1 := IntWalk.i64_in _ (by omega)
       have hil : i3 < l.length := by have := HP.out; omega
       obtain ⟨_, _, e0, _, _, hcl⟩ := HL3.out
       cases e0
       obtain ⟨bl2, of2, rfl, hbl2, hcell⟩ := hcl (by omega)
       obtain ⟨a1, a2, a3⟩ := hI.out.1.at HS3.out.ok hil
       obtain ⟨id, hid⟩ := nmz (l[i3].1)
       rw [hid] at a1 a2 a3
       have y0 : w3.cell? ⟨bl2, of2 + i3, none⟩ = some (.int .i64 (id : Int)) := hcell _ _ (by unfold intsV; rw [List.getElem?_map, List.getElem?_map, List.getElem?_eq_getElem hil]; simp [hid])
       have HY : Hid (∀ W, Below w3.heap.size w3 W → W.cell? ⟨bl2, of2 + i3, none⟩ = some (.int .i64 (id : Int))) := fun W hW => (hW.cell (p := ⟨bl2, of2 + i3, none⟩) hbl2).trans y0
       have y1 := HY.out wr hbr.out
       have HSr := Hdz (HS3.out.below hbr.out)
       have HLo := Hdz (HSr.out.lookOld (x := sesOf id) (by omega) (id : Int) 3 (by rw [lookS_nat (by omega) (by omega)]; exact a3) rfl (by omega))
       have HBr := Hdz hbr.out
       clear hcl hcell y0 hid a3 hbl2 hil hbr
       go_wp2_with (fail)
       go_must (refine HLo.out.mono ?_)
       rintro e w4 ⟨rfl, hb4⟩
       have HB4 := Hdz (HBr.out.trans (hb4.mono HBr.out.size))
       have y2 := HY.out ((w4.alloc (.cells #[.int .i64 0, strV [], .int .i64 (id : Int)] 32)).drew) (HB4.out.alloc HB4.out.size _).drew
       have y3 : (w4.alloc (.cells #[.int .i64 0, strV [], .int .i64 (id : Int)] 32)).drew.cell? ⟨w4.heap.size, 2, none⟩ = some (.int .i64 (id : Int)) := (Blk.new w4 32 #[.int .i64 0, strV [], .int .i64 (id : Int)]).drew.cell 2
       have HB5 := Hdz (HB4.out.alloc HB4.out.size (.cells #[.int .i64 0, strV [], .int .i64 (id : Int)] 32)).drew
       simp only [sesOf]
       clear hb4 y1
       go_wp2_with (fail)
       refine wRz ?_
       try simp only [lAz]
       refine tA 0 ?_; try simp only [lAz]
       refine tA 1 ?_; try simp only [lAz]
       refine tA 2 ?_; try simp only [lAz]
       refine tA 3 ?_; try simp only [lAz]
       refine tA 4 ?_; try simp only [lAz]
       refine tA 5 ?_; try simp only [lAz]
       refine tA 6 ?_; try simp only [lAz]
       refine tA 7 ?_; try simp only [lAz]
       refine rA 8 (v := ?_) (hy := ?hy) ?_; case hy => (intro w hE; have q0 := hE.cell y3; go_simp; try with_reducible rfl)
       try simp only [lAz]
       refine tA 9 ?_; try simp only [lAz]
       refine tA 10 ?_; try simp only [lAz]
       refine tA 11 ?_; try simp only [lAz]
       refine rA 12 (v := ?_) (hy := ?hy) ?_; case hy => (intro w hE; have q0 := hE.cell y2; go_simp; try with_reducible rfl)
       try simp only [lAz]
       refine tA 13 ?_; try simp only [lAz]
       refine tA 14 ?_; try simp only [lAz]
       refine wDz ?_
       go_wp2_with (fail)
       go_roundg (p - (i3 + 1))
       case measure => omega
       case rel => exact ⟨i3 + 1, by simp, by omega, by omega, HB5.out⟩
      ·have h1' : ¬ (i3 : Int) < (p : Int) := by omega
       obtain ⟨w5, rfl⟩ : ∃ w5, w5 = wr := ⟨_, rfl⟩
       have HS5 := Hdz (HS3.out.below hbr.out)
       have HB5 := Hdz (HB3.out.trans (hbr.out.mono HB3.out.size))
       have HO5 := Hdz (HO3.out.below hbr.out)
       clear hbr h1 hgk hi3 HS3 HS2 HB2 HB3 HO2 HL3
       go_wp2_with (fail)
       go_loopg [22] ne (fun gk s22 wr => ∃ i4 : Nat, s22 = .int .i64 (i4 : Int) ∧ gk = ne - i4 ∧ i4 ≤ ne ∧ Hid (Below w5.heap.size w5 wr))
       case atStart => exact ⟨0, rfl, by omega, by omega, Below.refl _ _⟩
       case round =>
        obtain ⟨i4, rfl, hgk, hi4, hbr⟩ := hrel
        have HSr := Hdz (HS5.out.below hbr.out)
        by_cases h1 : i4 < ne
        ·have h1' : (i4 : Int) < (ne : Int) := by omega
         have hi0' : (0 : Int) ≤ (i4 : Int) := by omega
         have hw1 : IntKind.i64.wrap ((i4 : Int) + 1) = (i4 : Int) + 1 := IntWalk.i64_in _ (by omega)
         have hiE : i4 < E.length := by have := hI.out.2; omega
         obtain ⟨_, _, e0, _, _, hcl⟩ := HO5.out
         cases e0
         obtain ⟨bl2, of2, rfl, hbl2, hcell⟩ := hcl (by omega)
         have hin : E[i4] ∈ E := List.getElem_mem hiE
         obtain ⟨g, hg⟩ := nmz (E[i4])
         rw [hg] at hin
         have y0 : w5.cell? ⟨bl2, of2 + i4, none⟩ = some (.int .i64 g) := by rw [← hg]; exact hcell _ _ (intsV_get hiE)
         have HY : Hid (∀ W, Below w5.heap.size w5 W → W.cell? ⟨bl2, of2 + i4, none⟩ = some (.int .i64 g)) := fun W hW => (hW.cell (p := ⟨bl2, of2 + i4, none⟩) hbl2).trans y0
         have y1 := HY.out wr hbr.out
         have hgN := hI.out.1.mem g hin
         have HNo : Hid (lookS l g = none) := by
          show lookS l g = none
          obtain ⟨kg, rfl⟩ : ∃ kg : Nat, g = (kg : Int) := ⟨g.toNat, by omega⟩
          rw [lookS_nat (by omega) (by omega), hI.out.1.get, if_neg fun h => h.2.2 hin]
         have HLo := Hdz (HSr.out.lookNo (by omega) g 4 HNo.out)
         have HBr := Hdz hbr.out
         clear hcl hcell y0 hg hbl2 hiE hin hgN hbr
         go_wp2_with (fail)
         go_must (refine HLo.out.mono ?_)
         rintro e w6 ⟨rfl, hb6⟩
         have HB6 := Hdz (HBr.out.trans (hb6.mono HBr.out.size))
         have HB6a := Hdz (HB6.out.alloc HB6.out.size (.cells #[.int .i64 0, strV [], .int .i64 0] 32))
         have y2 := HY.out (w6.alloc (.cells #[.int .i64 0, strV [], .int .i64 0] 32)) HB6a.out
         have HSv := Hdz ((HS5.out.below HB6a.out).saveNo (by omega) g 4 noSes HNo.out)
         clear hb6 y1
         go_wp2_with (fail)
         go_must (refine HSv.out.mono ?_)
         rintro e w7 ⟨rfl, hb7⟩
         have HB7 := Hdz (HB6a.out.trans (hb7.mono HB6a.out.size))
         clear hb7 y2
         go_wp2_with (fail)
         go_roundg (ne - (i4 + 1))
         case measure => omega
         case rel => exact ⟨i4 + 1, by simp, by omega, by omega, HB7.out⟩
        ·have h1' : ¬ (i4 : Int) < (ne : Int) := by omega
         have HB6 := Hdz (HB5.out.trans (hbr.out.mono HB5.out.size))
         have hR := HSr.out.register (by omega) 7 (by unfold I64; omega) (by omega)
         obtain ⟨N1, hN1⟩ := nmz (N + 1)
         rw [hN1] at hR
         have HR := Hdz hR
         have hw1 : IntKind.i64.wrap ((N : Int) + 1) = (N1 : Int) := by rw [IntWalk.i64_in _ (by omega)]; omega
         clear hbr hR hN1
         go_wp2_with (fail)
         go_must (refine HR.out.mono ?_)
         rintro e w8 ⟨rfl, hS8, hb8⟩
         have HB8 := Hdz (HB6.out.trans (hb8.base HB6.out.size fun k e => e.1))
         clear hS8 hb8
         go_wp2_with (fail)
         go_must (refine (alive24 _).mono ?_)
         rintro e w9 ⟨rfl, hb9⟩
         have HB9 := Hdz (HB8.out.trans (hb9.mono HB8.out.size))
         clear hb9
         go_wp2_with (fail)
         go_ret
         exact ⟨rfl, HB9.out⟩
section
open Go.ChangeShapes Go.WideShapes
variable {H : Type} {enc : TypeId × Value → H} {P : Program} {w : World} {base : Nat} {spare : Nat → Bool} {held : Bool}
theorem slice_ints {t e : TypeId} {fuel : Nat} {v : Value} {y : DataW H × List MemPlace} (ht : P.underlying t = some (.slice e)) (he : P.underlying e = some (.int .i64)) (hC : P.cellsOf e = 1)
  (h : DataW.trod enc P w base spare held fuel t [v] = some y) : ∃ l, IntsAt w v l := by
 rcases open_ints ht he hC h with ⟨e0, _⟩ | ⟨a, len, cap, zs, e0, hb, hl, hm, hz, hx, hcell, hsz⟩
 ·simp only [List.cons.injEq, and_true] at e0
  subst e0
  exact ⟨[], Sl.nil .., Nat.zero_le _⟩
 ·simp only [List.cons.injEq, and_true] at e0
  subst e0
  have hls : len ≤ zs.length := by rw [hz]; split <;> omega
  have hll : (zs.take len).length = len := by rw [List.length_take]; omega
  refine ⟨zs.take len, ⟨some a, cap, by rw [hll], by rw [hll]; exact hl, by unfold intsV; rw [List.length_map]; omega, fun hp => ?_⟩, by rw [hll]; omega⟩
  have h0 := hcell 0 (by omega)
  have hsp : a.spot = none ∧ a.block < w.heap.size := by
   unfold World.cell? at h0
   split at h0
   ·rename_i c e' fz hq
    split at h0
    ·cases h0
    ·rename_i hs'
     exact ⟨by simpa [Addr.add] using hs', (Array.getElem?_eq_some_iff.1 hq).1⟩
   ·cases h0
  obtain ⟨bl, of, sp⟩ := a
  obtain ⟨hsp, hbl⟩ := hsp
  simp only at hsp
  subst hsp
  refine ⟨bl, of, rfl, hbl, fun j u hu => ?_⟩
  unfold intsV at hu
  rw [List.getElem?_map] at hu
  obtain ⟨s, hs, rfl⟩ := Option.map_eq_some_iff.1 hu
  rw [List.getElem?_take] at hs
  split at hs
  ·obtain ⟨hj, hjs⟩ := List.getElem?_eq_some_iff.1 hs
   have h1 := hcell j hj
   rw [addr_add, List.getD_eq_getElem?_getD, hs] at h1
   rw [h1]
   rfl
  ·cases hs
end
end Go.Ev
