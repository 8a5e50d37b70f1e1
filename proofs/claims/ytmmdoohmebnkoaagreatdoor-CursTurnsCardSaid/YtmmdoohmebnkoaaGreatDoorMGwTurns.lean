/-
  The law arboretumlaw12.CursTurns, walked over the contracts of all that it calls.
-/
import Derived.Test.YtmmdoohmebnkoaaGreatDoorMGwGrown
import Derived.Test.YtmmdoohmebnkoaaGreatDoorMGwSt
set_option linter.unusedVariables false
set_option linter.unusedSimpArgs false
namespace Go.Ev
open Go.Proofs Go.RowKit

section
variable {p b most cnt B : Nat} {c : Pc} {M : Store} {all : List Pair} {root : Int} {w : World} {F : Nat → Prop}

theorem same_st {i : Nat} (q : Pair) (hq : all[i]? = some q) (hT : TreeOk M root all cnt) (h : CSt B F p b c most cnt M root all (some i) w) :
    Calls Tryz.prog 14 #[ptrV b, pairV q] w fun e w' => e = .returned (.bool true) ∧ Below w.heap.size w w' := by
  have hb0 : Below w.heap.size w (w.alloc (.cells #[strV q.1, strV q.2] 34)) := (Below.refl _ w).alloc (Nat.le_refl _) _
  have bx0 : Blk (w.alloc (.cells #[strV q.1, strV q.2] 34)) w.heap.size 34 #[strV q.1, strV q.2] := Blk.new _ _ _
  have hP := pair_st hT (h.below hb0)
  simp only [pairAt, hq, Option.getD_some] at hP
  have HP := Lib.hid hP
  have HB := Lib.hid hb0
  have HX := Lib.hid bx0
  clear hP hb0 bx0 hq hT h
  obtain ⟨q1, q2⟩ := q
  go_enter Tryz.func14, Tryz.ntmps14
  go_wp2_with (fail)
  go_must (refine HP.out.mono ?_)
  rintro e w1 ⟨rfl, hb1⟩
  have hz1 := hb1.size
  simp at hz1
  have x1 := HX.out.below' hb1
  have c0 : w1.cell? ⟨w.heap.size, 0, none⟩ = some (strV q1) := x1.cell 0
  have c1 : w1.cell? ⟨w.heap.size, 1, none⟩ = some (strV q2) := x1.cell 1
  have hlt : w.heap.size < w1.heap.size := by omega
  have HB1 := Lib.hid (HB.out.trans (hb1.mono (by simp)))
  clear x1 hb1
  go_wp2_with (fail)
  go_ret
  exact ⟨rfl, by exact (HB1.out.alloc (by omega) _)⟩
end

theorem Below.of_frm {B : Nat} {F : Nat → Prop} {w w' : World} (h : Keeps (Frm B F) w w') (hB : B ≤ w.heap.size) : Below B w w' := h.below hB fun i hi e => by have := e.1; omega

/-- A cursor, and a pair in a block of its own. -/
structure Tn (w : World) (B g : Nat) (q : Pair) (p b : Nat) (c : Pc) (cnt : Nat) (M : Store) (root : Int) (all : List Pair) (o : Option Nat) (W : World) : Prop where
  st : CSt B (fun k => k = g) p b c 3000 cnt M root all o W
  bl : Below w.heap.size w W
  blk : Blk W g 34 #[strV q.1, strV q.2]
  le : w.heap.size ≤ B

section
variable {w W W' : World} {B g p b cnt : Nat} {q : Pair} {c : Pc} {M : Store} {root : Int} {all : List Pair} {o o' : Option Nat}
theorem Tn.below (h : Tn w B g q p b c cnt M root all o W) (hb : Below W.heap.size W W') : Tn w B g q p b c cnt M root all o W' := ⟨h.st.below hb, h.bl.trans (hb.mono h.bl.size), h.blk.below' hb, h.le⟩
theorem Tn.go {e : Ending} (h : Tn w B g q p b c cnt M root all o W) (hs : CStP B (fun k => k = g) p b c 3000 cnt M root all o' W e W') : e = .returned (.bool o'.isSome) ∧ Tn w B g q p b c cnt M root all o' W' := by
  obtain ⟨rfl, h1, h2⟩ := hs
  exact ⟨rfl, h1, h.bl.trans ((Below.of_frm h2 h.st.size).mono h.le), h.blk.keeps h2 fun e => e.2 rfl, h.le⟩
theorem Tn.c0 (h : Tn w B g q p b c cnt M root all o W) : W.cell? ⟨g, 0, none⟩ = some (strV q.1) := h.blk.cell 0
theorem Tn.c1 (h : Tn w B g q p b c cnt M root all o W) : W.cell? ⟨g, 1, none⟩ = some (strV q.2) := h.blk.cell 1
theorem Tn.make {w5 W6 : World} (h : CSt B (fun _ => False) p b c 3000 cnt M root all o W) (hb : Below w.heap.size w W) (hle : w.heap.size ≤ B) (h5 : Below W.heap.size W w5)
    (e6 : w5.alloc (.cells #[strV q.1, strV q.2] 34) = W6) : Tn w B w5.heap.size q p b c cnt M root all o W6 := by
  have hz5 := h5.size
  have h6 : Below W.heap.size W W6 := by
    rw [← e6]
    exact h5.alloc hz5 _
  have b6 : Blk W6 w5.heap.size 34 #[strV q.1, strV q.2] := by
    rw [← e6]
    exact Blk.new _ _ _
  exact ⟨h.also h6 (fun k hk => .inr (by subst hk; exact ⟨hz5, b6.lt⟩)), hb.trans (h6.mono hb.size), b6, hle⟩
end

set_option maxHeartbeats 4000000 in
set_option maxRecDepth 100000 in
theorem turns_walk (hAl : ∀ W, Calls Tryz.prog 5 #[] W (TrueB W)) (A : Option Addr) (n c : Nat) (ops : List OpL) (key : Bytes) (w : World) (h : OpsAt w (.slice A n c) ops) (hkey : key.length ≤ 9223372036854775807) :
    Calls Tryz.prog 3 #[.slice A n c, strV key] w (TrueB w) := by
  obtain ⟨m, hm⟩ : ∃ m, key.length = m := ⟨_, rfl⟩
  have HOps := Lib.hid h
  have HL := Lib.hid (light_any A n c ops w h)
  have HAl := Lib.hid hAl
  clear h hAl
  go_enter Tryz.func3, Tryz.ntmps3
  go_wp2_with (fail)
  go_must (refine HL.out.mono ?_)
  rintro e w1 ⟨bl, rfl, hlight, hb1⟩
  have HB1 := Lib.hid hb1
  have hok := HOps.out.below hb1
  cases bl with
  | false =>
    clear hlight hok hb1
    go_wp2_with (fail)
    go_must (refine (HAl.out _).mono ?_)
    rintro e w2 ⟨rfl, hb2⟩
    go_wp2_with (fail)
    go_ret
    exact ⟨rfl, HB1.out.trans (hb2.mono HB1.out.size)⟩
  | true =>
    obtain ⟨hl1, hl2⟩ := hlight rfl
    by_cases h300 : (300 : Int) < (m : Int)
    · clear hlight hok hb1
      go_wp2_with (fail)
      go_must (refine (HAl.out _).mono ?_)
      rintro e w2 ⟨rfl, hb2⟩
      go_wp2_with (fail)
      go_ret
      exact ⟨rfl, HB1.out.trans (hb2.mono HB1.out.size)⟩
    · have HG := Lib.hid (grown_any A n c ops w1 hok hl1)
      obtain ⟨all, hall⟩ : ∃ all, growP (kvs ops) [] = all := ⟨_, rfl⟩
      have hlen : all.length ≤ 511 := by
        have := growP_len (kvs ops) []
        rw [hall] at this
        simp only [kvs, List.length_map, List.length_nil] at this
        omega
      unfold GrownP at HG
      rw [hall] at HG
      clear hlight hok hb1 hl2 hall
      go_wp2_with (fail)
      go_must (refine HG.out.mono ?_)
      rintro e w2 ⟨p, root, x, rfl, hGr, hb2⟩
      obtain ⟨pc, M, cnt, hpg, hT, _, _⟩ := hGr.ex
      obtain ⟨X, cx, rfl, _⟩ := Sl.of_own hGr.own
      have HB2 := Lib.hid (HB1.out.trans (hb2.mono HB1.out.size))
      have HN := Lib.hid (new_st (root := root) (all := all) hpg)
      clear hGr hb2 hpg
      go_wp2_with (fail)
      go_must (refine HN.out.mono ?_)
      rintro e w3 ⟨b, rfl, hst, hb3⟩
      have HB3 := Lib.hid (HB2.out.trans (hb3.mono HB2.out.size))
      have hz3 := hst.size
      have HS := Lib.hid (seek_st key hT hlen hst)
      clear hst hb3
      obtain ⟨i, hi⟩ : ∃ i, aheadP key all = i := ⟨_, rfl⟩
      rw [hi] at HS
      clear hi
      by_cases hlt : i < all.length
      · rw [if_pos hlt] at HS
        obtain ⟨q, hq⟩ : ∃ q, all[i]? = some q := ⟨_, List.getElem?_eq_getElem hlt⟩
        go_wp2_with (fail)
        go_must (refine HS.out.mono ?_)
        rintro e w4 ⟨rfl, hst4, hk4⟩
        have hB4 := Below.of_frm hk4 hz3
        have HB4 := Lib.hid (HB3.out.trans (hB4.mono (by have := HB2.out.size; omega)))
        have hP := pair_st hT hst4
        simp only [pairAt, hq, Option.getD_some] at hP
        have HP := Lib.hid hP
        have HST4 := Lib.hid hst4
        have hz4 := hst4.size
        clear hst4 hk4 hB4 hP
        simp only [Option.isSome_some]
        go_wp2_with (fail)
        go_must (refine HP.out.mono ?_)
        rintro e w5 ⟨rfl, hb5⟩
        -- the pair in a cell of its own
        obtain ⟨W6, hW6⟩ : ∃ W6, w5.alloc (.cells #[strV q.1, strV q.2] 34) = W6 := ⟨_, rfl⟩
        have hTn : Tn w w2.heap.size w5.heap.size q p b pc cnt M root all (some i) W6 := Tn.make HST4.out HB4.out (by have := HB2.out.size; omega) hb5 hW6
        have HN6 := Lib.hid (next_st hT hlen hTn.st)
        have HW6 := Lib.hid hW6
        have HTn := Lib.hid hTn
        clear hTn hb5 hW6
        go_wp2_with (fail)
        rw [HW6.out]
        clear HW6
        generalize w5.heap.size = g at *
        by_cases h2 : i + 1 < all.length
        · rw [if_pos h2] at HN6
          go_must (refine HN6.out.mono ?_)
          intro e w7 h7
          obtain ⟨rfl, hTn⟩ := HTn.out.go h7
          have HTn7 := Lib.hid hTn
          have hPv := prev_st hT hlen hTn.st
          rw [if_pos (Nat.succ_pos i), Nat.add_sub_cancel] at hPv
          have HPv := Lib.hid hPv
          clear hPv hTn h7 HN6
          simp only [Option.isSome_some]
          go_wp2_with (fail)
          go_must (refine HPv.out.mono ?_)
          intro e w8 h8
          obtain ⟨rfl, hTn⟩ := HTn7.out.go h8
          have HTn8 := Lib.hid hTn
          have c0 := hTn.c0
          have c1 := hTn.c1
          have HSm := Lib.hid (same_st q hq hT hTn.st)
          clear hTn h8
          simp only [Option.isSome_some]
          go_wp2_with (fail)
          go_must (refine HSm.out.mono ?_)
          rintro e w9 ⟨rfl, hb9⟩
          have HTn9 := Lib.hid (HTn8.out.below hb9)
          have HPv9 := Lib.hid (prev_st hT hlen HTn9.out.st)
          clear hb9 c0 c1 HSm
          by_cases h3 : 0 < i
          · rw [if_pos h3] at HPv9
            go_wp2_with (fail)
            go_must (refine HPv9.out.mono ?_)
            intro e w10 h10
            obtain ⟨rfl, hTn⟩ := HTn9.out.go h10
            have HTn10 := Lib.hid hTn
            clear hTn h10
            simp only [Option.isSome_some]
            go_wp2_with (fail)
            go_must (refine (HAl.out _).mono ?_)
            rintro e w11 ⟨rfl, hb11⟩
            have HTn11 := Lib.hid (HTn10.out.below hb11)
            have hN := next_st hT hlen HTn11.out.st
            rw [if_pos (by omega : i - 1 + 1 < all.length), show i - 1 + 1 = i by omega] at hN
            have HN11 := Lib.hid hN
            clear hb11 hN
            go_wp2_with (fail)
            go_must (refine HN11.out.mono ?_)
            intro e w12 h12
            obtain ⟨rfl, hTn⟩ := HTn11.out.go h12
            have HTn12 := Lib.hid hTn
            have c0 := hTn.c0
            have c1 := hTn.c1
            have HSm := Lib.hid (same_st q hq hT hTn.st)
            clear hTn h12
            simp only [Option.isSome_some]
            go_wp2_with (fail)
            go_must (refine HSm.out.mono ?_)
            rintro e w13 ⟨rfl, hb13⟩
            have HTn13 := Lib.hid (HTn12.out.below hb13)
            clear hb13
            go_wp2_with (fail)
            go_ret
            exact ⟨rfl, HTn13.out.bl⟩
          · have hi0 : i = 0 := by omega
            subst hi0
            rw [if_neg h3] at HPv9
            go_wp2_with (fail)
            go_must (refine HPv9.out.mono ?_)
            intro e w10 h10
            obtain ⟨rfl, hTn⟩ := HTn9.out.go h10
            have HTn10 := Lib.hid hTn
            clear hTn h10
            simp only [Option.isSome_none]
            go_wp2_with (fail)
            go_must (refine (HAl.out _).mono ?_)
            rintro e w11 ⟨rfl, hb11⟩
            have HTn11 := Lib.hid (HTn10.out.below hb11)
            have hN := first_st hT hlen HTn11.out.st
            rw [if_neg (by rintro rfl; simp at hlt)] at hN
            have HN11 := Lib.hid hN
            clear hb11 hN
            go_wp2_with (fail)
            go_must (refine HN11.out.mono ?_)
            intro e w12 h12
            obtain ⟨rfl, hTn⟩ := HTn11.out.go h12
            have HTn12 := Lib.hid hTn
            have c0 := hTn.c0
            have c1 := hTn.c1
            have HSm := Lib.hid (same_st q hq hT hTn.st)
            clear hTn h12
            simp only [Option.isSome_some]
            go_wp2_with (fail)
            go_must (refine HSm.out.mono ?_)
            rintro e w13 ⟨rfl, hb13⟩
            have HTn13 := Lib.hid (HTn12.out.below hb13)
            clear hb13
            go_wp2_with (fail)
            go_ret
            exact ⟨rfl, HTn13.out.bl⟩
        · rw [if_neg h2] at HN6
          go_must (refine HN6.out.mono ?_)
          intro e w7 h7
          obtain ⟨rfl, hTn⟩ := HTn.out.go h7
          have HTn7 := Lib.hid hTn
          clear hTn h7 HN6
          simp only [Option.isSome_none]
          go_wp2_with (fail)
          go_must (refine (HAl.out _).mono ?_)
          rintro e w8 ⟨rfl, hb8⟩
          have HTn8 := Lib.hid (HTn7.out.below hb8)
          have HPv := Lib.hid (prevNo_st HTn8.out.st)
          have hN := last_st hT hlen HTn8.out.st
          rw [if_neg (by rintro rfl; simp at hlt), show all.length - 1 = i by omega] at hN
          have HLa := Lib.hid hN
          clear hb8 hN
          go_wp2_with (fail)
          go_must (refine HPv.out.mono ?_)
          rintro e w9 ⟨rfl, rfl⟩
          go_wp2_with (fail)
          go_must (refine HLa.out.mono ?_)
          intro e w10 h10
          obtain ⟨rfl, hTn⟩ := HTn8.out.go h10
          have HTn10 := Lib.hid hTn
          have c0 := hTn.c0
          have c1 := hTn.c1
          have HSm := Lib.hid (same_st q hq hT hTn.st)
          clear hTn h10
          simp only [Option.isSome_some]
          go_wp2_with (fail)
          go_must (refine HSm.out.mono ?_)
          rintro e w11 ⟨rfl, hb11⟩
          have HTn11 := Lib.hid (HTn10.out.below hb11)
          clear hb11
          go_wp2_with (fail)
          go_ret
          exact ⟨rfl, HTn11.out.bl⟩
      · rw [if_neg hlt] at HS
        go_wp2_with (fail)
        go_must (refine HS.out.mono ?_)
        rintro e w4 ⟨rfl, hst4, hk4⟩
        have hB4 := Below.of_frm hk4 hz3
        have HB4 := Lib.hid (HB3.out.trans (hB4.mono (by have := HB2.out.size; omega)))
        have hP := pair_st hT hst4
        simp only [pairAt] at hP
        have HP := Lib.hid hP
        have HST4 := Lib.hid hst4
        have hz4 := hst4.size
        clear hst4 hk4 hB4 hP
        go_wp2_with (fail)
        go_must (refine HP.out.mono ?_)
        rintro e w5 ⟨rfl, hb5⟩
        obtain ⟨W6, hW6⟩ : ∃ W6, w5.alloc (.cells #[strV [], strV []] 34) = W6 := ⟨_, rfl⟩
        have hTn : Tn w w2.heap.size w5.heap.size ([], []) p b pc cnt M root all none W6 := Tn.make HST4.out HB4.out (by have := HB2.out.size; omega) hb5 hW6
        have HW6 := Lib.hid hW6
        have HTn := Lib.hid hTn
        clear hTn hb5 hW6
        go_wp2_with (fail)
        rw [HW6.out]
        clear HW6
        go_must (refine (HAl.out _).mono ?_)
        rintro e w7 ⟨rfl, hb7⟩
        have HTn7 := Lib.hid (HTn.out.below hb7)
        have HNx := Lib.hid (nextNo_st HTn7.out.st)
        have HPv := Lib.hid (prevNo_st HTn7.out.st)
        have HEr := Lib.hid (err_st HTn7.out.st)
        clear hb7
        go_wp2_with (fail)
        go_must (refine HNx.out.mono ?_)
        rintro e w8 ⟨rfl, rfl⟩
        go_wp2_with (fail)
        go_must (refine HPv.out.mono ?_)
        rintro e w8 ⟨rfl, rfl⟩
        go_wp2_with (fail)
        go_must (refine HEr.out.mono ?_)
        rintro e w8 ⟨rfl, rfl⟩
        go_wp2_with (fail)
        go_ret
        exact ⟨rfl, HTn7.out.bl⟩

def aliveOps : List OpL := [⟨0, [97], [49]⟩, ⟨0, [99], [50]⟩]

theorem alive_ops (w : World) (T : TypeId) : OpsAt (w.alloc (.cells #[.int .i64 0, strV [97], strV [49], .int .i64 0, strV [99], strV [50]] T)) (.slice (some ⟨w.heap.size, 0, none⟩) 2 2) aliveOps := by
  have hb : Blk (w.alloc (.cells #[.int .i64 0, strV [97], strV [49], .int .i64 0, strV [99], strV [50]] T)) w.heap.size T #[.int .i64 0, strV [97], strV [49], .int .i64 0, strV [99], strV [50]] := Blk.new _ _ _
  refine ⟨⟨_, _, rfl, Nat.le_refl _, rfl, fun _ => ⟨w.heap.size, 0, rfl, hb.lt, fun j u hu => ?_⟩⟩, by unfold maxLen aliveOps; simp, fun o ho => ?_⟩
  · rw [Nat.zero_add, hb.cell]
    match j with
    | 0 => exact hu
    | 1 => exact hu
    | 2 => exact hu
    | 3 => exact hu
    | 4 => exact hu
    | 5 => exact hu
    | j + 6 => simp [aliveOps, opsCs, opCs] at hu
  · unfold maxLen
    simp only [aliveOps, List.mem_cons, List.not_mem_nil, or_false] at ho
    rcases ho with rfl | rfl <;> simp

set_option maxHeartbeats 4000000 in
set_option maxRecDepth 100000 in
theorem alive12 (w : World) : Calls Tryz.prog 5 #[] w (TrueB w) := by
  have HG := Lib.hid (grown_any _ _ _ aliveOps _ (alive_ops w 43) (by decide))
  unfold GrownP at HG
  obtain ⟨all, hall⟩ : ∃ all, growP (kvs aliveOps) [] = all := ⟨_, rfl⟩
  rw [hall] at HG
  have hall2 : all = [([97], [49]), ([99], [50])] := by rw [← hall]; rfl
  have HB0 := Lib.hid ((Below.refl w.heap.size w).alloc (Nat.le_refl _) (.cells #[.int .i64 0, strV [97], strV [49], .int .i64 0, strV [99], strV [50]] 43))
  have hlen : all.length ≤ 511 := by rw [hall2]; decide
  have hseek : (if aheadP [98] all < all.length then some (aheadP [98] all) else none) = some 1 := by rw [hall2]; rfl
  have hq : all[1]? = some ([99], [50]) := by rw [hall2]; rfl
  have hl2 : all.length = 2 := by rw [hall2]; rfl
  clear hall hall2
  have Hq := Lib.hid hq
  have Hl2 := Lib.hid hl2
  have Hsk := Lib.hid hseek
  clear hq hl2 hseek
  go_enter Tryz.func5, Tryz.ntmps5
  go_wp2_with (fail)
  go_must (refine HG.out.mono ?_)
  rintro e w2 ⟨p, root, x, rfl, hGr, hb2⟩
  obtain ⟨pc, M, cnt, hpg, hT, _, _⟩ := hGr.ex
  obtain ⟨X, cx, rfl, _⟩ := Sl.of_own hGr.own
  have HB2 := Lib.hid (HB0.out.trans (hb2.mono HB0.out.size))
  have HN := Lib.hid (new_st (root := root) (all := all) hpg)
  clear hGr hb2 hpg
  go_wp2_with (fail)
  go_must (refine HN.out.mono ?_)
  rintro e w3 ⟨b, rfl, hst, hb3⟩
  have HB3 := Lib.hid (HB2.out.trans (hb3.mono HB2.out.size))
  have hz3 := hst.size
  have hS := seek_st [98] hT hlen hst
  rw [Hsk.out] at hS
  have HS := Lib.hid hS
  clear hst hb3 hS
  go_wp2_with (fail)
  go_must (refine HS.out.mono ?_)
  rintro e w4 ⟨rfl, hst4, hk4⟩
  have hB4 := Below.of_frm hk4 hz3
  have HB4 := Lib.hid (HB3.out.trans (hB4.mono (by have := HB2.out.size; omega)))
  have hP := pair_st hT hst4
  simp only [pairAt, Hq.out, Option.getD_some] at hP
  have HP := Lib.hid hP
  have HST4 := Lib.hid hst4
  clear hst4 hk4 hB4 hP
  simp only [Option.isSome_some]
  go_wp2_with (fail)
  go_must (refine HP.out.mono ?_)
  rintro e w5 ⟨rfl, hb5⟩
  obtain ⟨W6, hW6⟩ : ∃ W6, w5.alloc (.cells #[strV [99], strV [50]] 34) = W6 := ⟨_, rfl⟩
  have hTn : Tn w w2.heap.size w5.heap.size ([99], [50]) p b pc cnt M root all (some 1) W6 := Tn.make HST4.out HB4.out (by have := HB2.out.size; omega) hb5 hW6
  have hNx := next_st hT hlen hTn.st
  rw [if_neg (by rw [Hl2.out]; omega)] at hNx
  have HNx := Lib.hid hNx
  have HW6 := Lib.hid hW6
  have HTn := Lib.hid hTn
  have c0 := hTn.c0
  have c1 := hTn.c1
  clear hTn hb5 hNx hW6
  go_wp2_with (fail)
  rw [HW6.out]
  clear HW6
  go_must (refine HNx.out.mono ?_)
  intro e w7 h7
  obtain ⟨rfl, hTn⟩ := HTn.out.go h7
  have HTn7 := Lib.hid hTn
  have HPv := Lib.hid (prevNo_st hTn.st)
  have hF := first_st hT hlen hTn.st
  rw [if_neg (by rintro rfl; have := Hl2.out; simp at this)] at hF
  have HF := Lib.hid hF
  clear hTn h7 hF c0 c1
  simp only [Option.isSome_none]
  go_wp2_with (fail)
  go_must (refine HPv.out.mono ?_)
  rintro e w8 ⟨rfl, rfl⟩
  go_wp2_with (fail)
  go_must (refine HF.out.mono ?_)
  intro e w9 h9
  obtain ⟨rfl, hTn⟩ := HTn7.out.go h9
  have HTn9 := Lib.hid hTn
  have HEr := Lib.hid (err_st hTn.st)
  clear hTn h9
  simp only [Option.isSome_some]
  go_wp2_with (fail)
  go_must (refine HEr.out.mono ?_)
  rintro e w10 ⟨rfl, rfl⟩
  go_wp2_with (fail)
  go_ret
  exact ⟨rfl, HTn9.out.bl⟩

theorem call_cursTurns (A : Option Addr) (n c : Nat) (ops : List OpL) (key : ByteArray) (w : World) (h : OpsAt w (.slice A n c) ops) (hkey : key.size ≤ maxLen) :
    Calls Tryz.prog 3 #[.slice A n c, .string key] w (TrueB w) := by
  have := turns_walk alive12 A n c ops key.data.toList w h (by
    have e : key.data.toList.length = key.size := Array.length_toList
    unfold maxLen at hkey
    omega)
  have e2 : strV key.data.toList = .string key := by
    show Value.string ⟨key.data.toList.toArray⟩ = _
    rw [Array.toArray_toList]
  rw [e2] at this
  exact this
end Go.Ev
