/-
  The law arboretumlaw12.CursRanges, walked over the contracts of all that it calls. The law arboretumlaw12.CursRanges holds, whatever steps, whatever three keys and whatever bound it is handed: its text is walked over the contracts of all that it calls; conditions: the row's own (the listed variables are as the program's text lays them). The law arboretumlaw12.CursRanges holds, whatever steps, whatever three keys and whatever bound it is handed: its text is walked over the contracts of all that it calls; conditions: the row's own (the listed variables are as the program's text lays them).
-/
import Derived.Test.YtgfmhppkmogdhaaGreatDoorMRGwRangesX
import Derived.Test.YtgfmhppkmogdhaaGreatDoorMRGwRange
import Derived.Test.YtgfmhppkmogdhaaGreatDoorMRGwSame
import Derived.Carry
import Derived.Test.YtgfmhppkmogdhaaGreatDoorTie
import Derived.Test.YtgfmhppkmogdhaaGreatDoorCards
import Derived.ProofKit
import Derived.OpenShut
import Derived.ChangeMaps5
import Derived.LaidMore
import Derived.Lay
import Derived.SevenTiedAt
import Derived.Stop.Joined
set_option linter.unusedVariables false
set_option linter.unusedSimpArgs false
set_option linter.unusedVariables false
set_option linter.unusedSimpArgs false
namespace Go.Ev
open Go.Proofs Go.RowKit

theorem Gr.rising {ops : List OpL} : Rising (growP (kvs ops) []) := growP_rising trivial

theorem ranges_math {all : List Pair} {lo mid hi : Bytes} {m : Nat} (hr : Rising all) (h0 : mid ≠ []) (h1 : hi ≠ []) (h2 : lessB mid lo = false) (h3 : lessB hi mid = false) (hm : 1 ≤ m) :
    rangeP lo mid 0 all ++ rangeP mid hi 0 all = rangeP lo hi 0 all ∧ (rangeP lo hi m all).length = min m (rangeP lo hi 0 all).length ∧ rangeP lo hi m all = (rangeP lo hi 0 all).take (rangeP lo hi m all).length := by
  refine ⟨range_parts hr h0 h1 h2 h3, ?_, ?_⟩
  · rw [range_bound (by omega), List.length_take]
  · rw [range_bound (by omega), List.length_take]
    by_cases h : m ≤ (rangeP lo hi 0 all).length
    · rw [Nat.min_eq_left h]
    · rw [Nat.min_eq_right (by omega), List.take_of_length_le (by omega), List.take_of_length_le (Nat.le_refl _)]

theorem rangeP_len (lo hi : Bytes) (most : Int) (all : List Pair) : (rangeP lo hi most all).length ≤ all.length := by
  unfold rangeP
  refine Nat.le_trans (goR_len _ _ _ _) ?_
  rw [List.length_drop]
  omega

theorem wpList_unguard {P : Program} {ops : Array Oper} {rest : List Oper} {o : Oper} {a : Act} {w : World} {Q : Exit → Act → World → Prop} (hw : Region.wanted o (yielded ops a.tmps) = true) (h : wpList P ops Q ({ o with guard := none } :: rest) a w) : wpList P ops Q (o :: rest) a w := by
  unfold wpList at h ⊢
  rw [if_pos hw]
  rw [if_pos (by simp [Region.wanted])] at h
  exact h

theorem le_of_or {a b : Bytes} (h : (Op.bytesLess a b || a == b) = true) : lessB b a = false := by
  rcases Bool.or_eq_true _ _ ▸ h with h | h
  · exact lessB_asymm h
  · have e : a = b := by simpa using h
    subst e
    exact lessB_irrefl _

/-- All of the four ranges, put side by side. -/
structure Rgs (lo mid hi : Bytes) (m : Nat) (all a b c d : List Pair) : Prop where
  parts : a ++ b = c
  len : d.length = min m c.length
  first : d = c.take d.length
  few : c.length ≤ 511 ∧ a.length ≤ 511 ∧ b.length ≤ 511 ∧ d.length ≤ 511

set_option maxHeartbeats 24000000 in
set_option maxRecDepth 100000 in
theorem ranges_main (hAl : ∀ W, Calls Tryz.prog 9 #[] W (TrueB W)) (A : Option Addr) (n c : Nat) (ops : List OpL) (lo mid hi : Bytes) (most : Int) (w : World) (h : OpsAt w (.slice A n c) ops) (n1 n2 n3 : Nat) (hn1 : lo.length = n1) (hn2 : mid.length = n2) (hn3 : hi.length = n3) (hb1' : n1 ≤ 9223372036854775807) (hb2' : n2 ≤ 9223372036854775807) (hb3' : n3 ≤ 9223372036854775807) (c1 : ¬ (300 : Int) < (n1 : Int)) (c2 : ¬ (300 : Int) < (n2 : Int)) (c3 : ¬ (300 : Int) < (n3 : Int)) (c4 : (mid == ([] : Bytes)) = false) (c5 : (hi == ([] : Bytes)) = false) (c6 : (Op.bytesLess lo mid || lo == mid) = true) (c7 : (Op.bytesLess mid hi || mid == hi) = true) (c8 : ¬ most < 1) (d4 : mid ≠ []) (d5 : hi ≠ []) :
    Calls Tryz.prog 3 #[.slice A n c, strV lo, strV mid, strV hi, .int .i64 most] w (TrueB w) := by
  obtain ⟨i0, hinf, q0, q1, q2⟩ := info_parts infoPair
  have HOps := Lib.hid h
  have HL := Lib.hid (light_any A n c ops w h)
  have HAl := Lib.hid hAl
  clear h hAl
  go_enter Tryz.func3, Tryz.ntmps3
  go_wp2_with (fail)
  go_must (refine HL.out.mono ?_)
  rintro e w1 ⟨bl, rfl, hlight, hb1⟩
  have HB1 := Lib.hid hb1
  have hok := HOps.out.below hb1
  cases bl with
  | false =>
    clear hlight hok hb1 d4 d5
    go_wp2_with (fail)
    go_must (refine (HAl.out _).mono ?_)
    rintro e w2 ⟨rfl, hb2⟩
    go_wp2_with (fail)
    go_ret
    exact ⟨rfl, HB1.out.trans (hb2.mono HB1.out.size)⟩
  | true =>
    obtain ⟨hl1, hl2⟩ := hlight rfl
    have HG := Lib.hid (grown_any A n c ops w1 hok hl1)
    obtain ⟨all, hall⟩ : ∃ all, growP (kvs ops) [] = all := ⟨_, rfl⟩
    have hlen : all.length ≤ 511 := by
      have := growP_len (kvs ops) []
      rw [hall] at this
      simp only [kvs, List.length_map, List.length_nil] at this
      omega
    have hris : Rising all := by rw [← hall]; exact Gr.rising
    unfold GrownP at HG
    rw [hall] at HG
    obtain ⟨mst, rfl⟩ : ∃ m : Nat, most = (m : Int) := ⟨most.toNat, by omega⟩
    obtain ⟨la, hla⟩ : ∃ l, rangeP lo mid 0 all = l := ⟨_, rfl⟩
    obtain ⟨lb, hlb⟩ : ∃ l, rangeP mid hi 0 all = l := ⟨_, rfl⟩
    obtain ⟨lc, hlc⟩ : ∃ l, rangeP lo hi 0 all = l := ⟨_, rfl⟩
    obtain ⟨ld, hld⟩ : ∃ l, rangeP lo hi (mst : Int) all = l := ⟨_, rfl⟩
    have hR : Rgs lo mid hi mst all la lb lc ld := by
      obtain ⟨r1, r2, r3⟩ := ranges_math (m := mst) hris d4 d5 (le_of_or c6) (le_of_or c7) (by omega)
      rw [hla, hlb, hlc] at r1
      rw [hld, hlc] at r2 r3
      refine ⟨r1, r2, r3, ?_, ?_, ?_, ?_⟩
      · rw [← hlc]; exact Nat.le_trans (rangeP_len ..) hlen
      · rw [← hla]; exact Nat.le_trans (rangeP_len ..) hlen
      · rw [← hlb]; exact Nat.le_trans (rangeP_len ..) hlen
      · rw [← hld]; exact Nat.le_trans (rangeP_len ..) hlen
    have HR := Lib.hid hR
    clear hlight hok hb1 hl2 hall hris hR d4 d5
    go_wp2_with (fail)
    go_must (refine HG.out.mono ?_)
    rintro e w2 ⟨p, root, x, rfl, hGr, hb2⟩
    obtain ⟨pc, M, cnt, hpg, hT, _, _⟩ := hGr.ex
    obtain ⟨X, cx, rfl, _⟩ := Sl.of_own hGr.own
    have HB2 := Lib.hid (HB1.out.trans (hb2.mono HB1.out.size))
    have HPg2 := Lib.hid hpg
    have HRa := Lib.hid (range_any root lo mid 0 all w2 hpg hT hlen)
    rw [hla] at HRa
    clear hGr hb2 hpg hla
    go_wp2_with (fail)
    go_must (refine HRa.out.mono ?_)
    rintro e w3 ⟨v3, rfl, hcl3, hb3⟩
    obtain ⟨A3, rfl, hA3, hS3⟩ := hcl3.sl
    have HS3 := Lib.hid hS3
    have HA3 := Lib.hid hA3
    have HB3 := Lib.hid (HB2.out.trans (hb3.mono HB2.out.size))
    have HPg3 := Lib.hid (HPg2.out.below hb3)
    have HRb := Lib.hid (range_any root mid hi 0 all w3 HPg3.out hT hlen)
    rw [hlb] at HRb
    clear hcl3 hb3 hS3 hA3 hlb
    go_wp2_with (fail)
    go_must (refine HRb.out.mono ?_)
    rintro e w4 ⟨v4, rfl, hcl4, hb4⟩
    obtain ⟨A4, rfl, hA4, hS4⟩ := hcl4.sl
    have HS3' := Lib.hid (HS3.out.below hb4)
    have HS4 := Lib.hid hS4
    have HA4 := Lib.hid hA4
    have HB4 := Lib.hid (HB3.out.trans (hb4.mono HB3.out.size))
    have HPg4 := Lib.hid (HPg3.out.below hb4)
    have HRc := Lib.hid (range_any root lo hi 0 all w4 HPg4.out hT hlen)
    rw [hlc] at HRc
    clear hcl4 hb4 hS4 hA4 hlc
    go_wp2_with (fail)
    go_must (refine HRc.out.mono ?_)
    rintro e w5 ⟨v5, rfl, hcl5, hb5⟩
    obtain ⟨A5, rfl, hA5, hS5⟩ := hcl5.sl
    have HS3'' := Lib.hid (HS3'.out.below hb5)
    have HS4' := Lib.hid (HS4.out.below hb5)
    have HS5 := Lib.hid hS5
    have HB5 := Lib.hid (HB4.out.trans (hb5.mono HB4.out.size))
    have HPg5 := Lib.hid (HPg4.out.below hb5)
    have HRd := Lib.hid (range_any root lo hi (mst : Int) all w5 HPg5.out hT hlen)
    rw [hld] at HRd
    clear hcl5 hb5 hS5 hA5 hld
    go_wp2_with (fail)
    go_must (refine HRd.out.mono ?_)
    rintro e w6 ⟨v6, rfl, hcl6, hb6⟩
    obtain ⟨A6, rfl, hA6, hS6⟩ := hcl6.sl
    have HS6 := Lib.hid hS6
    have HB6 := Lib.hid (HB5.out.trans (hb6.mono HB5.out.size))
    have HT3 := Lib.hid (HS3''.out.below hb6)
    have HT4 := Lib.hid (HS4'.out.below hb6)
    have HT5 := Lib.hid (HS5.out.below hb6)
    clear hcl6 hb6 hS6 hA6
    go_wp2_with (fail)
    go_must (refine (HAl.out _).mono ?_)
    rintro e w7 ⟨rfl, hb7⟩
    have HB7 := Lib.hid (HB6.out.trans (hb7.mono HB6.out.size))
    have X3 := Lib.hid (HT3.out.below hb7)
    have X4 := Lib.hid (HT4.out.below hb7)
    have X5 := Lib.hid (HT5.out.below hb7)
    have X6 := Lib.hid (HS6.out.below hb7)
    clear hb7
    obtain ⟨na, hna⟩ : ∃ m, la.length = m := ⟨_, rfl⟩
    obtain ⟨nb, hnb⟩ : ∃ m, lb.length = m := ⟨_, rfl⟩
    obtain ⟨nc, hnc⟩ : ∃ m, lc.length = m := ⟨_, rfl⟩
    obtain ⟨nd, hnd⟩ : ∃ m, ld.length = m := ⟨_, rfl⟩
    have few := HR.out.few
    have hmin := HR.out.len
    rw [hna] at few X3 HA3
    rw [hnb] at few X4 HA4
    rw [hnc] at few hmin X5
    rw [hnd] at few hmin X6
    obtain ⟨f1, f2, f3, f4⟩ := few
    have HMin := Lib.hid hmin
    clear hmin
    have HNA := Lib.hid hna
    have HNB := Lib.hid hnb
    have HNC := Lib.hid hnc
    have HND := Lib.hid hnd
    rw [HNA.out, HNB.out, HNC.out, HND.out]
    clear hna hnb hnc hnd
    go_wp2_with (at_builtin; go_must (refine wpList_unguard (by rfl) ?_; refine wpList_append_sl rfl _ _ 26 rfl w7.heap.size 44 i0 _ 2 32 Tryz.underlying26 hinf q0 q1 q2 rfl (by decide) (.slice none 0 0) 0 [] rfl (World.ownsRow_nil _ _ _ _) A3 na na (pairsCs la) rfl X3.out HA3.out (pairsCs_one _) (by unfold maxLen; omega) (by omega) (Nat.le_refl _) ?_))
    intro v8 w8 own8 hg8
    have hb8 : Below w7.heap.size w7 w8 := (Below.refl _ w7).grown hg8 (Nat.le_refl _) (fun k hk => by cases hk)
    obtain ⟨A8, c8, rfl, _⟩ := Sl.of_own own8
    have O8 := Lib.hid own8
    have Y4 := Lib.hid (X4.out.below hb8)
    have HB8 := Lib.hid hb8
    clear own8 hg8 hb8
    go_wp2_with (at_builtin; go_must (refine wpList_unguard (by rfl) ?_; refine wpList_append_sl rfl _ _ 26 rfl w7.heap.size 44 i0 _ 2 32 Tryz.underlying26 hinf q0 q1 q2 rfl (by decide) _ na (pairsCs la) rfl O8.out A4 nb nb (pairsCs lb) rfl Y4.out HA4.out (pairsCs_one _) (by unfold maxLen; omega) (by omega) HB8.out.size ?_))
    intro v9 w9 own9 hg9
    have hb9 : Below w7.heap.size w7 w9 := HB8.out.grown hg9 HB8.out.size (fun k hk => (O8.out.lt k hk).1)
    obtain ⟨A9, c9, rfl, _⟩ := Sl.of_own own9
    have hs9 := Sl.of_own own9
    rw [← pairsCs_app, HR.out.parts] at hs9
    have hnn : na + nb = nc := by rw [← HNA.out, ← HNB.out, ← HNC.out, ← List.length_append, HR.out.parts]
    rw [hnn] at hs9
    have hSm := samePairs_any A9 A5 nc nc c9 nc lc lc w9 hs9 (X5.out.below hb9) (by omega) (by omega)
    rw [decide_eq_true rfl] at hSm
    have HSm := Lib.hid hSm
    have HB9 := Lib.hid hb9
    have HX5 := Lib.hid (X5.out.below hb9)
    have HX6 := Lib.hid (X6.out.below hb9)
    rw [hnn]
    clear own9 hg9 hb9 hs9 hSm hnn
    go_wp2_with (fail)
    go_must (refine HSm.out.mono ?_)
    rintro e w10 ⟨rfl, hb10⟩
    have x5 := HX5.out.below hb10
    have x6 := HX6.out.below hb10
    have hnd : nd ≤ nc := by rw [HMin.out]; exact Nat.min_le_right _ _
    have hSm2 := samePairs_any A6 A5 nd nd nd nc ld (lc.take nd) w10 x6 (by
      have := x5.take hnd
      rw [← pairsCs_take]
      exact this) (by omega) (by omega)
    rw [decide_eq_true (by have := HR.out.first; rw [HND.out] at this; exact this)] at hSm2
    have HSm2 := Lib.hid hSm2
    have HB10 := Lib.hid (HB7.out.trans ((HB9.out.trans (hb10.mono HB9.out.size)).mono HB7.out.size))
    have hnd0 : (0 : Int) ≤ (nd : Int) := by omega
    have hnd1 : (nd : Int) ≤ (nc : Int) := by omega
    clear x5 x6 hSm2 hb10 hnd
    have hm : min (mst : Int) (nc : Int) = (nd : Int) := by
      rw [HMin.out, Int.min_def, Nat.min_def]
      by_cases h : mst ≤ nc
      · rw [if_pos h, if_pos (by omega)]
      · rw [if_neg h, if_neg (by omega)]
    go_wp2_with (fail)
    go_must (refine HSm2.out.mono ?_)
    rintro e w11 ⟨rfl, hb11⟩
    go_wp2_with (fail)
    go_ret
    exact ⟨rfl, HB10.out.trans (hb11.mono HB10.out.size)⟩

theorem ranges_walk (hAl : ∀ W, Calls Tryz.prog 9 #[] W (TrueB W)) (A : Option Addr) (n c : Nat) (ops : List OpL) (lo mid hi : Bytes) (most : Int) (w : World) (h : OpsAt w (.slice A n c) ops) (hlo : lo.length ≤ 9223372036854775807) (hmi : mid.length ≤ 9223372036854775807) (hhi : hi.length ≤ 9223372036854775807) :
    Calls Tryz.prog 3 #[.slice A n c, strV lo, strV mid, strV hi, .int .i64 most] w (TrueB w) := by
  by_cases c1 : (300 : Int) < (lo.length : Int)
  · exact ranges_x1 hAl A n c ops lo mid hi most w h _ _ _ rfl rfl rfl hlo hmi hhi  c1
  by_cases c2 : (300 : Int) < (mid.length : Int)
  · exact ranges_x2 hAl A n c ops lo mid hi most w h _ _ _ rfl rfl rfl hlo hmi hhi c1 c2
  by_cases c3 : (300 : Int) < (hi.length : Int)
  · exact ranges_x3 hAl A n c ops lo mid hi most w h _ _ _ rfl rfl rfl hlo hmi hhi c1 c2 c3
  by_cases d4 : mid = []
  · exact ranges_x4 hAl A n c ops lo mid hi most w h _ _ _ rfl rfl rfl hlo hmi hhi c1 c2 c3 (by simpa using d4)
  have c4 : (mid == ([] : Bytes)) = false := by simpa using d4
  by_cases d5 : hi = []
  · exact ranges_x5 hAl A n c ops lo mid hi most w h _ _ _ rfl rfl rfl hlo hmi hhi c1 c2 c3 c4 (by simpa using d5)
  have c5 : (hi == ([] : Bytes)) = false := by simpa using d5
  by_cases d6 : (Op.bytesLess lo mid || lo == mid) = false
  · exact ranges_x6 hAl A n c ops lo mid hi most w h _ _ _ rfl rfl rfl hlo hmi hhi c1 c2 c3 c4 c5 d6
  have c6 : (Op.bytesLess lo mid || lo == mid) = true := by simpa only [Bool.not_eq_false] using d6
  by_cases d7 : (Op.bytesLess mid hi || mid == hi) = false
  · exact ranges_x7 hAl A n c ops lo mid hi most w h _ _ _ rfl rfl rfl hlo hmi hhi c1 c2 c3 c4 c5 c6 d7
  have c7 : (Op.bytesLess mid hi || mid == hi) = true := by simpa only [Bool.not_eq_false] using d7
  by_cases c8 : most < 1
  · exact ranges_x8 hAl A n c ops lo mid hi most w h _ _ _ rfl rfl rfl hlo hmi hhi c1 c2 c3 c4 c5 c6 c7 c8
  exact ranges_main hAl A n c ops lo mid hi most w h _ _ _ rfl rfl rfl hlo hmi hhi c1 c2 c3 c4 c5 c6 c7 c8 d4 d5

theorem call_cursRanges (A : Option Addr) (n c : Nat) (ops : List OpL) (lo mid hi : ByteArray) (most : Int) (w : World) (h : OpsAt w (.slice A n c) ops) (hlo : lo.size ≤ maxLen) (hmi : mid.size ≤ maxLen) (hhi : hi.size ≤ maxLen) :
    Calls Tryz.prog 3 #[.slice A n c, .string lo, .string mid, .string hi, .int .i64 most] w (TrueB w) := by
  have e0 : ∀ x : ByteArray, x.size ≤ maxLen → x.data.toList.length ≤ 9223372036854775807 := fun x hx => by
    have e : x.data.toList.length = x.size := Array.length_toList
    unfold maxLen at hx
    omega
  have e2 : ∀ x : ByteArray, strV x.data.toList = .string x := fun x => by
    show Value.string ⟨x.data.toList.toArray⟩ = _
    rw [Array.toArray_toList]
  have := ranges_walk alive12 A n c ops lo.data.toList mid.data.toList hi.data.toList most w h (e0 lo hlo) (e0 mid hmi) (e0 hi hhi)
  rw [e2, e2, e2] at this
  exact this
end Go.Ev

set_option linter.unusedVariables false
set_option linter.unusedSimpArgs false
namespace Go.Proofs.YtgfmhppkmogdhaaGreatDoor
open Go.ChangeShapes Go.WideShapes Go.ChangeAt Go.RowKit

theorem ownRanges : ownKnob Tryz.prog.godebug = none := by kernel_rfl

set_option maxRecDepth 100000 in
theorem cursRanges_lifted (os : Os) (started : os.Started) (H : Type) (enc : TypeId × Value → H) :
    ReturnsInHanded {} Tryz.checked os 3 .any (fun w args => (Rows.cursRangesSpec.pre enc Tryz.prog Tryz.f3 [] false w args ∧ laidMetH Tryz.prog Rows.cursRangesRow.laid w) ∧ sizedMet enc Tryz.prog Tryz.f3 (OpenSpec.ofChange Rows.cursRangesSpec) false w args)
      (Rows.cursRangesSpec.post enc Tryz.prog Tryz.f3 false true false false) := by
  refine returnsInHanded_of_change_and (C := Tryz.checked) (X := fun w _ => laidMetH Tryz.prog Rows.cursRangesRow.laid w) (fun _ _ _ hh h => h.of_heap hh) ownRanges started (by kernel_rfl) Tryz.func3
    (ChangeSpec.witness_shaped (enc := enc) (C := Tryz.checked) (os := os) (X := fun w _ => laidMetH Tryz.prog Rows.cursRangesRow.laid w) false (World.laidAll Tryz.prog os Rows.cursRangesRow.laid) #[.slice none 0 0, .string ByteArray.empty, .string ByteArray.empty, .string ByteArray.empty, .int .i64 0] 8 (World.laidAll_os _ _ _)
      (World.shaped_of_ZipB (by kernel_rfl) (by kernel_rfl)) (by kernel_rfl) (by kernel_rfl) (by kernel_rfl)
      (by rw [MakeChecks.laidMetH_plain _ _ _ (by kernel_rfl)]; exact laidMet_laidAll _ (by kernel_rfl) (by kernel_rfl))) ?_
  intro W base args ds gs before hval0 hW _ _ hL _
  have hval : ∀ (j : Nat) t v, Tryz.f3.params[j]? = some t → args[j]? = some v → Value.okWide Tryz.prog W .any base t v := hval0
  have hW' := hW
  obtain ⟨p, q, hA0, hV, rfl, _, _⟩ := hW
  have hA : DataW.TrodAll enc Tryz.prog W 0 (fun _ => true) true Tryz.f3.params.toList args.toList ds p := hA0
  rw [Tryz.params3] at hA hval
  obtain ⟨v0, vs0, d0, ds0, p0, r0, hargs, rfl, rfl, h0, hr0⟩ := trodAll_cons hA
  obtain ⟨v1, vs1, d1, ds1, p1, r1, rfl, rfl, rfl, h1, hr1⟩ := trodAll_cons hr0
  obtain ⟨v2, vs2, d2, ds2, p2, r2, rfl, rfl, rfl, h2, hr2⟩ := trodAll_cons hr1
  obtain ⟨v3, vs3, d3, ds3, p3, r3, rfl, rfl, rfl, h3, hr3⟩ := trodAll_cons hr2
  obtain ⟨v4, vs4, d4, ds4, p4, r4, rfl, rfl, rfl, h4, hr4⟩ := trodAll_cons hr3
  obtain ⟨rfl, rfl, rfl⟩ := trodAll_nil hr4
  obtain rfl : args = #[v0, v1, v2, v3, v4] := by cases args; simp_all
  clear hargs hr0 hr1 hr2 hr3 hr4
  obtain ⟨rfl, rfl⟩ := trodVars_none hV
  obtain ⟨k1, rfl, rfl, rfl, hk1⟩ := Go.ChangeMaps.open_string Tryz.underlying9 (hval 1 9 v1 rfl rfl) h1
  obtain ⟨k2, rfl, rfl, rfl, hk2⟩ := Go.ChangeMaps.open_string Tryz.underlying9 (hval 2 9 v2 rfl rfl) h2
  obtain ⟨k3, rfl, rfl, rfl, hk3⟩ := Go.ChangeMaps.open_string Tryz.underlying9 (hval 3 9 v3 rfl rfl) h3
  obtain ⟨m4, rfl, rfl, rfl, hm4⟩ := open_int Tryz.underlying3 (hval 4 3 v4 rfl rfl) h4
  have h0k := h0
  obtain ⟨pa, l, c, rfl⟩ := okWide_slice Tryz.underlying22 (hval 0 22 v0 rfl rfl)
  obtain ⟨fuel, hf⟩ := h0
  obtain ⟨ops, hops⟩ := Ev.slice_ops Tryz.underlying22 Tryz.underlying76 (by kernel_rfl) (by kernel_rfl) rfl rfl rfl Tryz.underlying3 Tryz.underlying9 Tryz.underlying9 hf
  simp only [List.append_nil] at hW'
  have hlt : ∀ x ∈ p0, x.block < W.heap.size := fun x hx => by simpa using hW'.lt x hx
  refine (Ev.call_cursRanges pa l c ops k1 k2 k3 m4 W hops hk1 hk2 hk3).mono fun e W' ⟨hret, hw⟩ => ?_
  subst hret
  have hT0 := Below.trod (by kernel_rfl) (by kernel_rfl) (of_decide_eq_true (by kernel_rfl)) h0k hw hlt
  have hTs := trodAll_cons_mk hT0 (trodAll_cons_mk (Go.ChangeMaps.shut_string Tryz.underlying9 hk1) (trodAll_cons_mk (Go.ChangeMaps.shut_string Tryz.underlying9 hk2) (trodAll_cons_mk (Go.ChangeMaps.shut_string Tryz.underlying9 hk3) (trodAll_mk1 (shut_int Tryz.underlying3 hm4)))))
  exact ⟨_, rfl, _, _, _, [], p0, [], hW', trodAll_mk1 (shut_bool Tryz.underlying4 true), (by
    simp only [List.append_nil] at hTs
    exact hTs), rfl, hw.frame _, fun h => by cases h⟩
end Go.Proofs.YtgfmhppkmogdhaaGreatDoor

set_option linter.unusedVariables false
set_option linter.unusedSimpArgs false
namespace Go.Proofs.YtgfmhppkmogdhaaGreatDoor
open Go.ChangeShapes Go.WideShapes Go.ChangeAt Go.RowKit

set_option maxHeartbeats 40000000 in
theorem cursRanges_facts : joinedFacts Tryz.prog 3 Tryz.f3 Rows.cursRangesSpec Rows.cursRangesRow = true := by kernel_rfl

set_option maxHeartbeats 40000000 in
theorem cursRanges_row : Rows.CursRangesSaid :=
  OpenClaim.holds_of_wide 3 Tryz.f3 rfl rfl rfl rfl rfl rfl rfl ⟨rfl, rfl, rfl, rfl, rfl⟩ rfl rfl rfl rfl rfl (by as_aux_lemma => kernel_rfl) Tryz.func3 cursRanges_facts
    (of_decide_eq_true (by as_aux_lemma => kernel_rfl)) (by unfold Func.isWrapper; first | (rw [if_pos (by decide +kernel)]; kernel_rfl) | (rw [if_neg (by decide +kernel)]; exact ⟨rfl, rfl⟩))
    (fun os started H enc _ => cursRanges_lifted os started H enc)

set_option maxHeartbeats 40000000 in
theorem cursRanges_holds : Rows.CursRangesCardSaid :=
  Claim7.holds_tied_plain_at .later [] [.data, .pinned] true (true, "a33b2f475c1f761503b948178bd5576aa5a86259ebb8432500d7311015f6b41b") true cursRanges_row (fun _ h => by cases h) (by as_aux_lemma => kernel_rfl) (fun _ h => by cases h) cursRanges_row_tie rfl ⟨rfl, rfl⟩ (by as_aux_lemma => kernel_rfl) rfl
    (fun f fn hf hfn => by
      obtain rfl : f = 3 := Option.some.inj ((show Tryz.prog.funcNamed "arboretum/arboretumlaw12.CursRanges" = some 3 by as_aux_lemma => kernel_rfl).symm.trans hf) |>.symm
      obtain rfl : fn = Tryz.f3 := (Option.some.inj (Tryz.func3.symm.trans hfn)).symm
      exact ⟨by as_aux_lemma => kernel_rfl, fun j t ht => by
        rw [Tryz.params3] at ht
        have hm : t ∈ [22, 9, 9, 9, 3] := by simpa using Array.mem_of_getElem? ht
        have hall : ([22, 9, 9, 9, 3].all fun u => !Tryz.prog.wantsStandIn u) = true := by as_aux_lemma => kernel_rfl
        exact (show Tryz.prog.wantsStandIn t = false by simpa using List.all_eq_true.1 hall t hm)⟩)
    (by as_aux_lemma => kernel_rfl)
#print axioms cursRanges_holds
end Go.Proofs.YtgfmhppkmogdhaaGreatDoor
