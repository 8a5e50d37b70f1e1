/-
  The law arboretumlaw12.CursPlays, walked over the contracts of all that it calls. (Printed by plays_print.py.)
-/
import Derived.Test.YtgfmhppkmogdhaaGreatDoorMPGvAny2
import Derived.Test.YtgfmhppkmogdhaaGreatDoorMPGwRefRange
import Derived.Test.YtgfmhppkmogdhaaGreatDoorMPGwPlays0
import Derived.Test.YtgfmhppkmogdhaaGreatDoorMPGwOps2
set_option linter.unusedVariables false
set_option linter.unusedSimpArgs false
set_option linter.unusedVariables false
set_option linter.unusedSimpArgs false
namespace Go.Ev
open Go.Proofs Go.RowKit

/-- What is known of the pairs all along. -/
structure Kw (all : List Pair) : Prop where
  rise : Rising all
  good : GoodP all
  few : all.length ≤ 511

theorem Kw.short {all : List Pair} (h : Kw all) : ∀ q ∈ all, q.1.length ≤ 100000 := fun q hq => by
  have := (goodKV_of (h.good q hq)).2.1
  omega

def atV : Option Nat → Int
  | some i => i
  | none => -1
def okO (all : List Pair) : Option Nat → Prop
  | some i => i < all.length
  | none => True

theorem rangeP_few {lo hi : Bytes} {most : Int} {l : List Pair} : (rangeP lo hi most l).length ≤ l.length := by
  unfold rangeP
  refine Nat.le_trans (goR_len hi most 0 _) ?_
  rw [List.length_drop]
  omega

set_option maxHeartbeats 48000000 in
set_option maxRecDepth 100000 in
theorem plays_walk (hAl : ∀ W, Calls Tryz.prog 9 #[] W (TrueB W)) (A : Option Addr) (n c : Nat) (ops : List OpL) (A2 : Option Addr) (n2 c2 : Nat) (ops2 : List OpK) (lo hi : Bytes) (most : Int) (w : World) (h : OpsAt w (.slice A n c) ops) (h2 : OpksAt w (.slice A2 n2 c2) ops2) (hlo : lo.length ≤ 9223372036854775807) (hhi : hi.length ≤ 9223372036854775807) :
    Calls Tryz.prog 4 #[.slice A n c, .slice A2 n2 c2, strV lo, strV hi, .int .i64 most] w (TrueB w) := by
  have hn2 : ops2.length = n2 := by
    obtain ⟨⟨_, _, e0, _, h1, _⟩, _⟩ := h2
    cases e0
    rfl
  obtain ⟨l1, hl1⟩ : ∃ m, lo.length = m := ⟨_, rfl⟩
  obtain ⟨l2, hl2⟩ : ∃ m, hi.length = m := ⟨_, rfl⟩
  have HOps := Lib.hid (And.intro h h2)
  have HLen2 := Lib.hid hn2
  have HL := Lib.hid (light_any A n c ops w h)
  have HAl := Lib.hid hAl
  have hn2m : n2 ≤ maxLen := by rw [← hn2]; exact h2.2.1
  unfold maxLen at hn2m
  clear h h2 hAl hn2
  go_enter Tryz.func4, Tryz.ntmps4
  go_wp2_with (fail)
  go_must (refine HL.out.mono ?_)
  rintro e w1 ⟨bl, rfl, hlight, hb1⟩
  have HB1 := Lib.hid hb1
  have HLeft := Lib.hid hlight
  clear hlight hb1
  cases bl with
  | false =>
    clear HLeft
    go_wp2_with (fail)
    go_must (refine (HAl.out _).mono ?_)
    rintro e w2 ⟨rfl, hb2⟩
    go_wp2_with (fail)
    go_ret
    exact ⟨rfl, HB1.out.trans (hb2.mono HB1.out.size)⟩
  | true =>
    by_cases c1 : (200 : Int) < (n2 : Int)
    · skip
      clear HLeft
      go_wp2_with (fail)
      go_must (refine (HAl.out _).mono ?_)
      rintro e w2 ⟨rfl, hb2⟩
      go_wp2_with (fail)
      go_ret
      exact ⟨rfl, HB1.out.trans (hb2.mono HB1.out.size)⟩
    by_cases c2' : (3000 : Int) < (l1 : Int)
    · skip
      clear HLeft
      go_wp2_with (fail)
      go_must (refine (HAl.out _).mono ?_)
      rintro e w2 ⟨rfl, hb2⟩
      go_wp2_with (fail)
      go_ret
      exact ⟨rfl, HB1.out.trans (hb2.mono HB1.out.size)⟩
    by_cases c3 : (3000 : Int) < (l2 : Int)
    · skip
      clear HLeft
      go_wp2_with (fail)
      go_must (refine (HAl.out _).mono ?_)
      rintro e w2 ⟨rfl, hb2⟩
      go_wp2_with (fail)
      go_ret
      exact ⟨rfl, HB1.out.trans (hb2.mono HB1.out.size)⟩
    obtain ⟨hli1, hli2⟩ := HLeft.out rfl
    have HG := Lib.hid (grown_any A n c ops w1 (HOps.out.1.below HB1.out) hli1)
    obtain ⟨all, hall⟩ : ∃ all, growP (kvs ops) [] = all := ⟨_, rfl⟩
    have hKn : Kw all := ⟨by rw [← hall]; exact growP_rising trivial, by rw [← hall]; exact growP_good (fun q hq => by cases hq), by
      have := growP_len (kvs ops) []
      rw [hall] at this
      simp only [kvs, List.length_map, List.length_nil] at this
      omega⟩
    have hlen := hKn.few
    have HKn := Lib.hid hKn
    have HLo := Lib.hid (show lo.length ≤ 100000 by omega)
    have HHi := Lib.hid (show hi.length ≤ 100000 by omega)
    unfold GrownP at HG
    rw [hall] at HG
    clear HLeft hli1 hli2 hall hKn
    go_wp2_with (fail)
    go_must (refine HG.out.mono ?_)
    rintro e w2 ⟨p, root, x, rfl, hGr, hb2⟩
    obtain ⟨pc, M, cnt, hpg, hT, hS, _⟩ := hGr.ex
    have HX2 := Lib.hid (Sl.of_own hGr.own)
    obtain ⟨X, cx, rfl, -⟩ := Sl.of_own hGr.own
    have HB2 := Lib.hid (HB1.out.trans (hb2.mono HB1.out.size))
    have HPg2 := Lib.hid hpg
    have HcB := Lib.hid hpg.lt
    have HN := Lib.hid (new_st (root := root) (all := all) hpg)
    obtain ⟨na, hna⟩ : ∃ m, all.length = m := ⟨_, rfl⟩
    have HNa := Lib.hid hna
    rw [hna] at hlen HX2 ⊢
    clear hGr hb2 hpg hS hna
    go_wp2_with (fail)
    go_must (refine HN.out.mono ?_)
    rintro e w3 ⟨b, rfl, hst, hb3⟩
    have HSt := Lib.hid hst
    have HB3 := Lib.hid hb3
    clear hst hb3
    go_wp2_with (fail)
    go_loopg [16, 17] n2 (fun gk s16 s17 wr => ∃ (j : Nat) (o : Option Nat), s16 = .int .i64 (atV o) ∧ s17 = .int .i64 (j : Int) ∧ j + gk = n2 ∧ Hid (okO all o) ∧ Hid (CSt w2.heap.size (fun _ => False) p b pc 3000 cnt M root all o wr) ∧ Hid (Below w2.heap.size w2 wr))
    case atStart => exact ⟨0, none, rfl, rfl, by omega, trivial, HSt.out, HB3.out⟩
    case round =>
      clear HSt HB3 HN HG HL
      obtain ⟨j, o, rfl, rfl, hj, hok, hst, hbw⟩ := hrel
      by_cases h1 : j < n2
      · have h1' : (j : Int) < (n2 : Int) := by omega
        have hj0 : (0 : Int) ≤ (j : Int) := by omega
        have hw1 : IntKind.i64.wrap ((j : Int) + 1) = (j : Int) + 1 := IntWalk.i64_in _ (by omega)
        have hbww : Below w.heap.size w wr := HB2.out.trans (hbw.out.mono HB2.out.size)
        obtain ⟨⟨_, _, e0, _, _, hcl⟩, hm1, hm2⟩ := HOps.out.2.below hbww
        cases e0
        rw [HLen2.out] at hcl
        obtain ⟨bo, oo, rfl, hlo2, hco⟩ := hcl (by omega)
        have hjl : j < ops2.length := by rw [HLen2.out]; exact h1
        obtain ⟨p1, p2⟩ := opksCs_at ops2 j hjl
        have hkl := hm2 _ (List.getElem_mem hjl)
        unfold maxLen at hkl
        obtain ⟨op, hop⟩ : ∃ op, ops2[j] = op := ⟨_, rfl⟩
        rw [hop] at p1 p2 hkl
        obtain ⟨kind, key⟩ := op
        simp only at p1 p2 hkl
        have x1 : wr.cell? ⟨bo, oo + j * 2, none⟩ = _ := hco _ _ p1
        have x2 : wr.cell? ⟨bo, oo + j * 2 + 1, none⟩ = _ := hco _ _ p2
        obtain ⟨km, hkm⟩ : ∃ m, key.length = m := ⟨_, rfl⟩
        have HBw := Lib.hid hbww
        clear hcl hco p1 p2 hop hm1 hm2 hlo2 hbww hjl
        by_cases hbig : (3000 : Int) < (km : Int)
        · clear hst hok
          go_wp2_with (fail)
          go_ret
          exact ⟨rfl, HBw.out.alloc HBw.out.size _⟩
        have hkl2 : key.length ≤ 100000 := by omega
        have HKl := Lib.hid hkl2
        have hC1 : CSt w2.heap.size (fun k => k = wr.heap.size) p b pc 3000 cnt M root all o (wr.alloc (.cells #[.int .i64 kind, strV key] 39)) := hst.out.also ((Below.refl _ wr).alloc (Nat.le_refl _) _) (fun k hk => .inr ⟨by rw [hk]; exact Nat.le_refl _, by rw [hk]; simp⟩)
        have HC1 := Lib.hid hC1
        have hBq : Below w2.heap.size w2 (wr.alloc (.cells #[.int .i64 kind, strV key] 39)) := hbw.out.alloc hbw.out.size _
        have HBq := Lib.hid hBq
        have HOq := Lib.hid (Blk.new wr 39 #[.int .i64 kind, strV key])
        obtain ⟨W1, hW1⟩ : ∃ W1, wr.alloc (.cells #[.int .i64 kind, strV key] 39) = W1 := ⟨_, rfl⟩
        have HW1 := Lib.hid hW1
        rw [hW1] at HC1 HBq HOq
        clear hC1 hBq hst hkl2 hW1
        by_cases k1 : kind = 1
        · subst k1
          have HF := Lib.hid (first_st hT (by rw [HNa.out]; exact hlen) HC1.out)
          obtain ⟨o', ho'⟩ : ∃ o', (if all = [] then none else some 0 : Option Nat) = o' := ⟨_, rfl⟩
          rw [ho'] at HF
          have HO := Lib.hid ho'
          clear ho'
          go_wp2_with (fail)
          rw [HW1.out]
          go_must (refine HF.out.mono ?_)
          rintro e w4 ⟨rfl, hst4, hk4⟩
          have HC4 := Lib.hid hst4
          have HB4 := Lib.hid (HBq.out.trans (below_frm hk4 HBq.out.size))
          clear hst4 hk4
          cases o' with
          | none =>
            have hna0 : na = 0 := by
              have := HO.out
              split at this
              · rename_i hh; have := HNa.out; rw [hh] at this; exact this.symm
              · cases this
            subst hna0
            simp only [Option.isSome_none]
            have HP := Lib.hid (pair_st hT HC4.out)
            simp only [pairAt] at HP
            go_wp2_with (fail)
            go_must (refine HP.out.mono ?_)
            rintro e w6 ⟨rfl, hb6⟩
            have HC6 := Lib.hid (HC4.out.below (hb6.alloc hb6.size (.cells #[strV [], strV []] 44)))
            have HB6 := Lib.hid ((HB4.out.trans (hb6.mono HB4.out.size)).alloc (Nat.le_trans HB4.out.size hb6.size) (.cells #[strV [], strV []] 44))
            have zc1 : (w6.alloc (.cells #[strV [], strV []] 44)).cell? ⟨w6.heap.size, 0, none⟩ = some (strV []) := (Blk.new w6 _ _).cell 0
            have zc2 : (w6.alloc (.cells #[strV [], strV []] 44)).cell? ⟨w6.heap.size, 1, none⟩ = some (strV []) := (Blk.new w6 _ _).cell 1
            clear hb6
            go_wp2_with (fail)
            refine wp_region_any (by kernel_rfl) ?_
            change wpAny _ _ _ _ _ _ _ (World.drew _)
            try simp only [Act.put, lT, l0, lS]
            refine tA 0 ?_; try simp only [Act.put, lT, l0, lS]
            refine tA 1 ?_; try simp only [Act.put, lT, l0, lS]
            refine tA 2 ?_; try simp only [Act.put, lT, l0, lS]
            refine tA 3 ?_; try simp only [Act.put, lT, l0, lS]
            refine tA 4 ?_; try simp only [Act.put, lT, l0, lS]
            refine tA 5 ?_; try simp only [Act.put, lT, l0, lS]
            refine tA 6 ?_; try simp only [Act.put, lT, l0, lS]
            refine tA 7 ?_; try simp only [Act.put, lT, l0, lS]
            refine tA 8 ?_; try simp only [Act.put, lT, l0, lS]
            refine tA 9 ?_; try simp only [Act.put, lT, l0, lS]
            refine tA 10 ?_; try simp only [Act.put, lT, l0, lS]
            refine tA 11 ?_; try simp only [Act.put, lT, l0, lS]
            try simp only [Act.put, lT, l0, lS]
            refine sA 12 ?_; try simp only [Act.put, lT, l0, lS]
            refine sA 13 ?_; try simp only [Act.put, lT, l0, lS]
            refine sA 14 ?_; try simp only [Act.put, lT, l0, lS]
            refine sA 15 ?_; try simp only [Act.put, lT, l0, lS]
            refine sA 16 ?_; try simp only [Act.put, lT, l0, lS]
            refine sA 17 ?_; try simp only [Act.put, lT, l0, lS]
            try simp only [Act.put, lT, l0, lS]
            refine tA 18 ?_; try simp only [Act.put, lT, l0, lS]
            refine tA 19 ?_; try simp only [Act.put, lT, l0, lS]
            refine tA 20 ?_; try simp only [Act.put, lT, l0, lS]
            refine tA 21 ?_; try simp only [Act.put, lT, l0, lS]
            refine tA 22 ?_; try simp only [Act.put, lT, l0, lS]
            refine tA 23 ?_; try simp only [Act.put, lT, l0, lS]
            refine tA 25 ?_; try simp only [Act.put, lT, l0, lS]
            try simp only [Act.put, lT, l0, lS]
            refine rA 24 (v := ?_) (hy := ?hy) ?_; case hy => (intro w hE; have q0 := hE.cell zc1; have q1 := hE.cell zc2; go_simp; try with_reducible rfl)
            try simp only [Act.put, lT, l0, lS]
            try simp only [Act.put, lT, l0, lS]
            refine tA 26 ?_; try simp only [Act.put, lT, l0, lS]
            refine tA 27 ?_; try simp only [Act.put, lT, l0, lS]
            refine tA 28 ?_; try simp only [Act.put, lT, l0, lS]
            refine tA 29 ?_; try simp only [Act.put, lT, l0, lS]
            refine tA 30 ?_; try simp only [Act.put, lT, l0, lS]
            refine rd 31 (by kernel_rfl) rfl (fun K hK => ?_); go_simp
            (go_must (refine (err_st (HC6.out.below (Below.refl _ _).drew)).mono ?_); rintro e w7 ⟨rfl, rfl⟩)
            go_simp
            refine hK _ _ ?_
            clear hK K
            refine rd 32 (by kernel_rfl) rfl (fun K hK => ?_); go_simp; refine hK _ _ ?_; clear hK K
            refine rd 33 (by kernel_rfl) rfl (fun K hK => ?_); go_simp; refine hK _ _ ?_; clear hK K
            refine wpAny_done (by kernel_rfl) ?_ _
            go_wp2_with (fail)
            go_roundg (gk - 1)
            case measure => omega
            case rel => exact ⟨j + 1, none, rfl, by simp, by omega, trivial, (HC6.out.below (Below.refl _ _).drew).also (Below.refl _ _) (fun k hk => hk.elim), HB6.out.drew⟩
          | some k =>
            have hk0 : k = 0 ∧ 0 < na := by
              have := HO.out
              split at this
              · cases this
              · rename_i hh
                have h3 := HNa.out
                cases all with
                | nil => exact absurd rfl hh
                | cons q l => simp at h3; exact ⟨(Option.some.inj this).symm, by omega⟩
            obtain ⟨rfl, hnp⟩ := hk0
            have hka : (0 : Int) < (na : Int) := by omega
            simp only [Option.isSome_some]
            obtain ⟨q, hq⟩ : ∃ q, all[0]? = some q := ⟨_, List.getElem?_eq_getElem (by rw [HNa.out]; omega)⟩
            have HP := Lib.hid (pair_st hT HC4.out)
            simp only [pairAt, hq, Option.getD_some] at HP
            obtain ⟨qk, qv⟩ := q
            have HQ := Lib.hid hq
            clear hq
            go_wp2_with (fail)
            go_must (refine HP.out.mono ?_)
            rintro e w6 ⟨rfl, hb6⟩
            have HC6 := Lib.hid (HC4.out.below (hb6.alloc hb6.size (.cells #[strV qk, strV qv] 44)))
            have HB6 := Lib.hid ((HB4.out.trans (hb6.mono HB4.out.size)).alloc (Nat.le_trans HB4.out.size hb6.size) (.cells #[strV qk, strV qv] 44))
            have zc1 : (w6.alloc (.cells #[strV qk, strV qv] 44)).cell? ⟨w6.heap.size, 0, none⟩ = some (strV qk) := (Blk.new w6 _ _).cell 0
            have zc2 : (w6.alloc (.cells #[strV qk, strV qv] 44)).cell? ⟨w6.heap.size, 1, none⟩ = some (strV qv) := (Blk.new w6 _ _).cell 1
            obtain ⟨_, _, e0, _, _, hcx⟩ := HX2.out.below HB6.out
            cases e0
            obtain ⟨bx, ox, rfl, _, hcx⟩ := hcx (by omega)
            obtain ⟨p1, p2⟩ := pairsCs_at all 0 (by rw [HNa.out]; omega)
            have hqe : all[0]'(by rw [HNa.out]; omega) = (qk, qv) := by
              have := HQ.out
              rw [List.getElem?_eq_getElem (by rw [HNa.out]; omega)] at this
              exact Option.some.inj this
            rw [hqe] at p1 p2
            have y1 : (w6.alloc (.cells #[strV qk, strV qv] 44)).cell? ⟨bx, ox, none⟩ = some (strV qk) := hcx _ _ p1
            have y2 : (w6.alloc (.cells #[strV qk, strV qv] 44)).cell? ⟨bx, ox + 1, none⟩ = some (strV qv) := hcx _ _ p2
            clear hb6 p1 p2 hcx hqe
            go_wp2_with (fail)
            refine wp_region_any (by kernel_rfl) ?_
            change wpAny _ _ _ _ _ _ _ (World.drew _)
            try simp only [Act.put, lT, l0, lS]
            refine tA 0 ?_; try simp only [Act.put, lT, l0, lS]
            refine tA 1 ?_; try simp only [Act.put, lT, l0, lS]
            refine tA 2 ?_; try simp only [Act.put, lT, l0, lS]
            refine tA 3 ?_; try simp only [Act.put, lT, l0, lS]
            refine tA 4 ?_; try simp only [Act.put, lT, l0, lS]
            refine tA 5 ?_; try simp only [Act.put, lT, l0, lS]
            refine tA 6 ?_; try simp only [Act.put, lT, l0, lS]
            refine tA 7 ?_; try simp only [Act.put, lT, l0, lS]
            refine tA 8 ?_; try simp only [Act.put, lT, l0, lS]
            refine tA 9 ?_; try simp only [Act.put, lT, l0, lS]
            refine tA 10 ?_; try simp only [Act.put, lT, l0, lS]
            refine tA 11 ?_; try simp only [Act.put, lT, l0, lS]
            refine tA 13 ?_; try simp only [Act.put, lT, l0, lS]
            refine tA 14 ?_; try simp only [Act.put, lT, l0, lS]
            refine tA 15 ?_; try simp only [Act.put, lT, l0, lS]
            try simp only [Act.put, lT, l0, lS]
            refine rA 12 (v := ?_) (hy := ?hy) ?_; case hy => (intro w hE; have q0 := hE.cell zc1; have q1 := hE.cell zc2; go_simp; try with_reducible rfl)
            try simp only [Act.put, lT, l0, lS]
            try simp only [Act.put, lT, l0, lS]
            refine rA 16 (v := ?_) (hy := ?hy) ?_; case hy => (intro w hE; have q0 := hE.cell y1; have q1 := hE.cell y2; go_simp; try with_reducible rfl)
            try simp only [Act.put, lT, l0, lS]
            try simp only [Act.put, lT, l0, lS]
            refine tA 17 ?_; try simp only [Act.put, lT, l0, lS]
            refine tA 18 ?_; try simp only [Act.put, lT, l0, lS]
            refine tA 19 ?_; try simp only [Act.put, lT, l0, lS]
            refine tA 20 ?_; try simp only [Act.put, lT, l0, lS]
            refine tA 21 ?_; try simp only [Act.put, lT, l0, lS]
            refine tA 22 ?_; try simp only [Act.put, lT, l0, lS]
            refine tA 23 ?_; try simp only [Act.put, lT, l0, lS]
            try simp only [Act.put, lT, l0, lS]
            refine sA 24 ?_; try simp only [Act.put, lT, l0, lS]
            refine sA 25 ?_; try simp only [Act.put, lT, l0, lS]
            refine sA 26 ?_; try simp only [Act.put, lT, l0, lS]
            try simp only [Act.put, lT, l0, lS]
            refine tA 27 ?_; try simp only [Act.put, lT, l0, lS]
            refine tA 28 ?_; try simp only [Act.put, lT, l0, lS]
            refine tA 29 ?_; try simp only [Act.put, lT, l0, lS]
            refine tA 30 ?_; try simp only [Act.put, lT, l0, lS]
            refine rd 31 (by kernel_rfl) rfl (fun K hK => ?_); go_simp
            (go_must (refine (err_st (HC6.out.below (Below.refl _ _).drew)).mono ?_); rintro e w7 ⟨rfl, rfl⟩)
            go_simp
            refine hK _ _ ?_
            clear hK K
            refine rd 32 (by kernel_rfl) rfl (fun K hK => ?_); go_simp; refine hK _ _ ?_; clear hK K
            refine rd 33 (by kernel_rfl) rfl (fun K hK => ?_); go_simp; refine hK _ _ ?_; clear hK K
            refine wpAny_done (by kernel_rfl) ?_ _
            go_wp2_with (fail)
            go_roundg (gk - 1)
            case measure => omega
            case rel => exact ⟨j + 1, some 0, rfl, by simp, by omega, (by show 0 < all.length; rw [HNa.out]; omega), (HC6.out.below (Below.refl _ _).drew).also (Below.refl _ _) (fun k hk => hk.elim), HB6.out.drew⟩
        have d1 : (kind == (1 : Int)) = false := by simpa using k1
        by_cases k2 : kind = 2
        · subst k2
          have HF := Lib.hid (last_st hT (by rw [HNa.out]; exact hlen) HC1.out)
          obtain ⟨o', ho'⟩ : ∃ o', (if all = [] then none else some (all.length - 1) : Option Nat) = o' := ⟨_, rfl⟩
          rw [ho'] at HF
          have HO := Lib.hid ho'
          clear ho' k1
          cases o' with
          | none =>
            have hna0 : na = 0 := by
              have := HO.out
              split at this
              · rename_i hh; have := HNa.out; rw [hh] at this; exact this.symm
              · cases this
            subst hna0
            go_wp2_with (fail)
            rw [HW1.out]
            go_must (refine HF.out.mono ?_)
            rintro e w4 ⟨rfl, hst4, hk4⟩
            have HC4 := Lib.hid hst4
            have HB4 := Lib.hid (HBq.out.trans (below_frm hk4 HBq.out.size))
            clear hst4 hk4
            try simp only [Option.isSome_none]
            have HP := Lib.hid (pair_st hT HC4.out)
            simp only [pairAt] at HP
            go_wp2_with (fail)
            go_must (refine HP.out.mono ?_)
            rintro e w6 ⟨rfl, hb6⟩
            have HC6 := Lib.hid (HC4.out.below (hb6.alloc hb6.size (.cells #[strV [], strV []] 44)))
            have HB6 := Lib.hid ((HB4.out.trans (hb6.mono HB4.out.size)).alloc (Nat.le_trans HB4.out.size hb6.size) (.cells #[strV [], strV []] 44))
            have zc1 : (w6.alloc (.cells #[strV [], strV []] 44)).cell? ⟨w6.heap.size, 0, none⟩ = some (strV []) := (Blk.new w6 _ _).cell 0
            have zc2 : (w6.alloc (.cells #[strV [], strV []] 44)).cell? ⟨w6.heap.size, 1, none⟩ = some (strV []) := (Blk.new w6 _ _).cell 1
            clear hb6
            go_wp2_with (fail)
            refine wp_region_any (by kernel_rfl) ?_
            change wpAny _ _ _ _ _ _ _ (World.drew _)
            try simp only [Act.put, lT, l0, lS]
            refine tA 0 ?_; try simp only [Act.put, lT, l0, lS]
            refine tA 1 ?_; try simp only [Act.put, lT, l0, lS]
            refine tA 2 ?_; try simp only [Act.put, lT, l0, lS]
            refine tA 3 ?_; try simp only [Act.put, lT, l0, lS]
            refine tA 4 ?_; try simp only [Act.put, lT, l0, lS]
            refine tA 5 ?_; try simp only [Act.put, lT, l0, lS]
            refine tA 6 ?_; try simp only [Act.put, lT, l0, lS]
            refine tA 7 ?_; try simp only [Act.put, lT, l0, lS]
            refine tA 8 ?_; try simp only [Act.put, lT, l0, lS]
            refine tA 9 ?_; try simp only [Act.put, lT, l0, lS]
            refine tA 10 ?_; try simp only [Act.put, lT, l0, lS]
            refine tA 11 ?_; try simp only [Act.put, lT, l0, lS]
            try simp only [Act.put, lT, l0, lS]
            refine sA 12 ?_; try simp only [Act.put, lT, l0, lS]
            refine sA 13 ?_; try simp only [Act.put, lT, l0, lS]
            refine sA 14 ?_; try simp only [Act.put, lT, l0, lS]
            refine sA 15 ?_; try simp only [Act.put, lT, l0, lS]
            refine sA 16 ?_; try simp only [Act.put, lT, l0, lS]
            refine sA 17 ?_; try simp only [Act.put, lT, l0, lS]
            try simp only [Act.put, lT, l0, lS]
            refine tA 18 ?_; try simp only [Act.put, lT, l0, lS]
            refine tA 19 ?_; try simp only [Act.put, lT, l0, lS]
            refine tA 20 ?_; try simp only [Act.put, lT, l0, lS]
            refine tA 21 ?_; try simp only [Act.put, lT, l0, lS]
            refine tA 22 ?_; try simp only [Act.put, lT, l0, lS]
            refine tA 23 ?_; try simp only [Act.put, lT, l0, lS]
            refine tA 25 ?_; try simp only [Act.put, lT, l0, lS]
            try simp only [Act.put, lT, l0, lS]
            refine rA 24 (v := ?_) (hy := ?hy) ?_; case hy => (intro w hE; have q0 := hE.cell zc1; have q1 := hE.cell zc2; go_simp; try with_reducible rfl)
            try simp only [Act.put, lT, l0, lS]
            try simp only [Act.put, lT, l0, lS]
            refine tA 26 ?_; try simp only [Act.put, lT, l0, lS]
            refine tA 27 ?_; try simp only [Act.put, lT, l0, lS]
            refine tA 28 ?_; try simp only [Act.put, lT, l0, lS]
            refine tA 29 ?_; try simp only [Act.put, lT, l0, lS]
            refine tA 30 ?_; try simp only [Act.put, lT, l0, lS]
            refine rd 31 (by kernel_rfl) rfl (fun K hK => ?_); go_simp
            (go_must (refine (err_st (HC6.out.below (Below.refl _ _).drew)).mono ?_); rintro e w7 ⟨rfl, rfl⟩)
            go_simp
            refine hK _ _ ?_
            clear hK K
            refine rd 32 (by kernel_rfl) rfl (fun K hK => ?_); go_simp; refine hK _ _ ?_; clear hK K
            refine rd 33 (by kernel_rfl) rfl (fun K hK => ?_); go_simp; refine hK _ _ ?_; clear hK K
            refine wpAny_done (by kernel_rfl) ?_ _
            go_wp2_with (fail)
            go_roundg (gk - 1)
            case measure => omega
            case rel => exact ⟨j + 1, none, rfl, by simp, by omega, trivial, (HC6.out.below (Below.refl _ _).drew).also (Below.refl _ _) (fun k hk => hk.elim), HB6.out.drew⟩
          | some k =>
            have hk0 : k + 1 = na := by
              have := HO.out
              split at this
              · cases this
              · rename_i hh
                have h3 := HNa.out
                cases all with
                | nil => exact absurd rfl hh
                | cons q l => simp at h3; have := Option.some.inj this; simp at this; omega
            have hw2 : IntKind.i64.wrap ((na : Int) - 1) = (k : Int) := by rw [IntWalk.i64_in _ (by omega)]; omega
            have hka : (k : Int) < (na : Int) := by omega
            have hkb : (0 : Int) ≤ (k : Int) := by omega
            have HKa := Lib.hid hk0
            clear hk0
            go_wp2_with (fail)
            rw [HW1.out]
            go_must (refine HF.out.mono ?_)
            rintro e w4 ⟨rfl, hst4, hk4⟩
            have HC4 := Lib.hid hst4
            have HB4 := Lib.hid (HBq.out.trans (below_frm hk4 HBq.out.size))
            clear hst4 hk4
            try simp only [Option.isSome_some]
            obtain ⟨q, hq⟩ : ∃ q, all[k]? = some q := ⟨_, List.getElem?_eq_getElem (by rw [HNa.out]; omega)⟩
            have HP := Lib.hid (pair_st hT HC4.out)
            simp only [pairAt, hq, Option.getD_some] at HP
            obtain ⟨qk, qv⟩ := q
            have HQ := Lib.hid hq
            clear hq
            go_wp2_with (fail)
            go_must (refine HP.out.mono ?_)
            rintro e w6 ⟨rfl, hb6⟩
            have HC6 := Lib.hid (HC4.out.below (hb6.alloc hb6.size (.cells #[strV qk, strV qv] 44)))
            have HB6 := Lib.hid ((HB4.out.trans (hb6.mono HB4.out.size)).alloc (Nat.le_trans HB4.out.size hb6.size) (.cells #[strV qk, strV qv] 44))
            have zc1 : (w6.alloc (.cells #[strV qk, strV qv] 44)).cell? ⟨w6.heap.size, 0, none⟩ = some (strV qk) := (Blk.new w6 _ _).cell 0
            have zc2 : (w6.alloc (.cells #[strV qk, strV qv] 44)).cell? ⟨w6.heap.size, 1, none⟩ = some (strV qv) := (Blk.new w6 _ _).cell 1
            obtain ⟨_, _, e0, _, _, hcx⟩ := HX2.out.below HB6.out
            cases e0
            obtain ⟨bx, ox, rfl, _, hcx⟩ := hcx (by omega)
            obtain ⟨p1, p2⟩ := pairsCs_at all k (by rw [HNa.out]; omega)
            have hqe : all[k]'(by rw [HNa.out]; omega) = (qk, qv) := by
              have := HQ.out
              rw [List.getElem?_eq_getElem (by rw [HNa.out]; omega)] at this
              exact Option.some.inj this
            rw [hqe] at p1 p2
            have y1 : (w6.alloc (.cells #[strV qk, strV qv] 44)).cell? ⟨bx, ox + k * 2, none⟩ = some (strV qk) := hcx _ _ p1
            have y2 : (w6.alloc (.cells #[strV qk, strV qv] 44)).cell? ⟨bx, ox + k * 2 + 1, none⟩ = some (strV qv) := hcx _ _ p2
            clear hb6 p1 p2 hcx hqe
            go_wp2_with (fail)
            refine wp_region_any (by kernel_rfl) ?_
            change wpAny _ _ _ _ _ _ _ (World.drew _)
            try simp only [Act.put, lT, l0, lS]
            refine tA 0 ?_; try simp only [Act.put, lT, l0, lS]
            refine tA 1 ?_; try simp only [Act.put, lT, l0, lS]
            refine tA 2 ?_; try simp only [Act.put, lT, l0, lS]
            refine tA 3 ?_; try simp only [Act.put, lT, l0, lS]
            refine tA 4 ?_; try simp only [Act.put, lT, l0, lS]
            refine tA 5 ?_; try simp only [Act.put, lT, l0, lS]
            refine tA 6 ?_; try simp only [Act.put, lT, l0, lS]
            refine tA 7 ?_; try simp only [Act.put, lT, l0, lS]
            refine tA 8 ?_; try simp only [Act.put, lT, l0, lS]
            refine tA 9 ?_; try simp only [Act.put, lT, l0, lS]
            refine tA 10 ?_; try simp only [Act.put, lT, l0, lS]
            refine tA 11 ?_; try simp only [Act.put, lT, l0, lS]
            refine tA 13 ?_; try simp only [Act.put, lT, l0, lS]
            refine tA 14 ?_; try simp only [Act.put, lT, l0, lS]
            refine tA 15 ?_; try simp only [Act.put, lT, l0, lS]
            try simp only [Act.put, lT, l0, lS]
            refine rA 12 (v := ?_) (hy := ?hy) ?_; case hy => (intro w hE; have q0 := hE.cell zc1; have q1 := hE.cell zc2; go_simp; try with_reducible rfl)
            try simp only [Act.put, lT, l0, lS]
            try simp only [Act.put, lT, l0, lS]
            refine rA 16 (v := ?_) (hy := ?hy) ?_; case hy => (intro w hE; have q0 := hE.cell y1; have q1 := hE.cell y2; go_simp; try with_reducible rfl)
            try simp only [Act.put, lT, l0, lS]
            try simp only [Act.put, lT, l0, lS]
            refine tA 17 ?_; try simp only [Act.put, lT, l0, lS]
            refine tA 18 ?_; try simp only [Act.put, lT, l0, lS]
            refine tA 19 ?_; try simp only [Act.put, lT, l0, lS]
            refine tA 20 ?_; try simp only [Act.put, lT, l0, lS]
            refine tA 21 ?_; try simp only [Act.put, lT, l0, lS]
            refine tA 22 ?_; try simp only [Act.put, lT, l0, lS]
            refine tA 23 ?_; try simp only [Act.put, lT, l0, lS]
            try simp only [Act.put, lT, l0, lS]
            refine sA 24 ?_; try simp only [Act.put, lT, l0, lS]
            refine sA 25 ?_; try simp only [Act.put, lT, l0, lS]
            refine sA 26 ?_; try simp only [Act.put, lT, l0, lS]
            try simp only [Act.put, lT, l0, lS]
            refine tA 27 ?_; try simp only [Act.put, lT, l0, lS]
            refine tA 28 ?_; try simp only [Act.put, lT, l0, lS]
            refine tA 29 ?_; try simp only [Act.put, lT, l0, lS]
            refine tA 30 ?_; try simp only [Act.put, lT, l0, lS]
            refine rd 31 (by kernel_rfl) rfl (fun K hK => ?_); go_simp
            (go_must (refine (err_st (HC6.out.below (Below.refl _ _).drew)).mono ?_); rintro e w7 ⟨rfl, rfl⟩)
            go_simp
            refine hK _ _ ?_
            clear hK K
            refine rd 32 (by kernel_rfl) rfl (fun K hK => ?_); go_simp; refine hK _ _ ?_; clear hK K
            refine rd 33 (by kernel_rfl) rfl (fun K hK => ?_); go_simp; refine hK _ _ ?_; clear hK K
            refine wpAny_done (by kernel_rfl) ?_ _
            go_wp2_with (fail)
            go_roundg (gk - 1)
            case measure => omega
            case rel => exact ⟨j + 1, some k, rfl, by simp, by omega, (by show k < all.length; rw [HNa.out]; omega), (HC6.out.below (Below.refl _ _).drew).also (Below.refl _ _) (fun k hk => hk.elim), HB6.out.drew⟩
        have d2 : (kind == (2 : Int)) = false := by simpa using k2
        by_cases k3 : kind = 3
        · subst k3
          have HF := Lib.hid (seek_st key hT (by rw [HNa.out]; exact hlen) HC1.out)
          obtain ⟨k, hk⟩ : ∃ k, aheadP key all = k := ⟨_, rfl⟩
          have hkle : k ≤ na := by rw [← hk, ← HNa.out]; exact aheadP_le key all
          rw [hk, HNa.out] at HF
          have HKa := Lib.hid hk
          have HX0 := Lib.hid (HX2.out.below HBq.out)
          have HOw := Lib.hid (show W1.cell? ⟨wr.heap.size, 1, none⟩ = some (strV key) from HOq.out.cell 1)
          have co : W1.cell? ⟨wr.heap.size, 1, none⟩ = some (strV key) := HOq.out.cell 1
          clear hk k1 k2
          go_wp2_with (fail)
          rw [HW1.out]
          go_must (refine HF.out.mono ?_)
          rintro e w4 ⟨rfl, hst4, hk4⟩
          have co4 : w4.cell? ⟨wr.heap.size, 1, none⟩ = some (strV key) := (HOq.out.keeps hk4 fun e => e.2 rfl).cell 1
          have HC4 := Lib.hid hst4
          have HB4 := Lib.hid (HBq.out.trans (below_frm hk4 HBq.out.size))
          clear hst4 hk4
          have HFi := Lib.hid (findP_any X na cx all key w4 (HX2.out.below HB4.out) (by omega) HKl.out HKn.out.short)
          clear co
          cases hlt : decide (k < na) with
          | true =>
            have hlt := of_decide_eq_true hlt
            have hka : (k : Int) < (na : Int) := by omega
            have hkb : (0 : Int) ≤ (k : Int) := by omega
            rw [if_pos hlt] at HC4 ⊢
            simp only [Option.isSome_some]
            go_wp2_with (fail)
            go_must (refine HFi.out.mono ?_)
            rintro e w5 ⟨rfl, hb5⟩
            rw [HKa.out]
            have HC5 := Lib.hid (HC4.out.below hb5)
            have HB5 := Lib.hid (HB4.out.trans (hb5.mono HB4.out.size))
            clear hb5 HC4 HB4 co4
            have HC4 := HC5
            have HB4 := HB5
            try simp only [Option.isSome_some]
            obtain ⟨q, hq⟩ : ∃ q, all[k]? = some q := ⟨_, List.getElem?_eq_getElem (by rw [HNa.out]; omega)⟩
            have HP := Lib.hid (pair_st hT HC4.out)
            simp only [pairAt, hq, Option.getD_some] at HP
            obtain ⟨qk, qv⟩ := q
            have HQ := Lib.hid hq
            clear hq
            go_wp2_with (fail)
            go_must (refine HP.out.mono ?_)
            rintro e w6 ⟨rfl, hb6⟩
            have HC6 := Lib.hid (HC4.out.below (hb6.alloc hb6.size (.cells #[strV qk, strV qv] 44)))
            have HB6 := Lib.hid ((HB4.out.trans (hb6.mono HB4.out.size)).alloc (Nat.le_trans HB4.out.size hb6.size) (.cells #[strV qk, strV qv] 44))
            have zc1 : (w6.alloc (.cells #[strV qk, strV qv] 44)).cell? ⟨w6.heap.size, 0, none⟩ = some (strV qk) := (Blk.new w6 _ _).cell 0
            have zc2 : (w6.alloc (.cells #[strV qk, strV qv] 44)).cell? ⟨w6.heap.size, 1, none⟩ = some (strV qv) := (Blk.new w6 _ _).cell 1
            obtain ⟨_, _, e0, _, _, hcx⟩ := HX2.out.below HB6.out
            cases e0
            obtain ⟨bx, ox, rfl, _, hcx⟩ := hcx (by omega)
            obtain ⟨p1, p2⟩ := pairsCs_at all k (by rw [HNa.out]; omega)
            have hqe : all[k]'(by rw [HNa.out]; omega) = (qk, qv) := by
              have := HQ.out
              rw [List.getElem?_eq_getElem (by rw [HNa.out]; omega)] at this
              exact Option.some.inj this
            rw [hqe] at p1 p2
            have y1 : (w6.alloc (.cells #[strV qk, strV qv] 44)).cell? ⟨bx, ox + k * 2, none⟩ = some (strV qk) := hcx _ _ p1
            have y2 : (w6.alloc (.cells #[strV qk, strV qv] 44)).cell? ⟨bx, ox + k * 2 + 1, none⟩ = some (strV qv) := hcx _ _ p2
            clear hb6 p1 p2 hcx hqe
            go_wp2_with (fail)
            refine wp_region_any (by kernel_rfl) ?_
            change wpAny _ _ _ _ _ _ _ (World.drew _)
            try simp only [Act.put, lT, l0, lS]
            refine tA 0 ?_; try simp only [Act.put, lT, l0, lS]
            refine tA 1 ?_; try simp only [Act.put, lT, l0, lS]
            refine tA 2 ?_; try simp only [Act.put, lT, l0, lS]
            refine tA 3 ?_; try simp only [Act.put, lT, l0, lS]
            refine tA 4 ?_; try simp only [Act.put, lT, l0, lS]
            refine tA 5 ?_; try simp only [Act.put, lT, l0, lS]
            refine tA 6 ?_; try simp only [Act.put, lT, l0, lS]
            refine tA 7 ?_; try simp only [Act.put, lT, l0, lS]
            refine tA 8 ?_; try simp only [Act.put, lT, l0, lS]
            refine tA 9 ?_; try simp only [Act.put, lT, l0, lS]
            refine tA 10 ?_; try simp only [Act.put, lT, l0, lS]
            refine tA 11 ?_; try simp only [Act.put, lT, l0, lS]
            refine tA 13 ?_; try simp only [Act.put, lT, l0, lS]
            refine tA 14 ?_; try simp only [Act.put, lT, l0, lS]
            refine tA 15 ?_; try simp only [Act.put, lT, l0, lS]
            try simp only [Act.put, lT, l0, lS]
            refine rA 12 (v := ?_) (hy := ?hy) ?_; case hy => (intro w hE; have q0 := hE.cell zc1; have q1 := hE.cell zc2; go_simp; try with_reducible rfl)
            try simp only [Act.put, lT, l0, lS]
            try simp only [Act.put, lT, l0, lS]
            refine rA 16 (v := ?_) (hy := ?hy) ?_; case hy => (intro w hE; have q0 := hE.cell y1; have q1 := hE.cell y2; go_simp; try with_reducible rfl)
            try simp only [Act.put, lT, l0, lS]
            try simp only [Act.put, lT, l0, lS]
            refine tA 17 ?_; try simp only [Act.put, lT, l0, lS]
            refine tA 18 ?_; try simp only [Act.put, lT, l0, lS]
            refine tA 19 ?_; try simp only [Act.put, lT, l0, lS]
            refine tA 20 ?_; try simp only [Act.put, lT, l0, lS]
            refine tA 21 ?_; try simp only [Act.put, lT, l0, lS]
            refine tA 22 ?_; try simp only [Act.put, lT, l0, lS]
            refine tA 23 ?_; try simp only [Act.put, lT, l0, lS]
            try simp only [Act.put, lT, l0, lS]
            refine sA 24 ?_; try simp only [Act.put, lT, l0, lS]
            refine sA 25 ?_; try simp only [Act.put, lT, l0, lS]
            refine sA 26 ?_; try simp only [Act.put, lT, l0, lS]
            try simp only [Act.put, lT, l0, lS]
            refine tA 27 ?_; try simp only [Act.put, lT, l0, lS]
            refine tA 28 ?_; try simp only [Act.put, lT, l0, lS]
            refine tA 29 ?_; try simp only [Act.put, lT, l0, lS]
            refine tA 30 ?_; try simp only [Act.put, lT, l0, lS]
            refine rd 31 (by kernel_rfl) rfl (fun K hK => ?_); go_simp
            (go_must (refine (err_st (HC6.out.below (Below.refl _ _).drew)).mono ?_); rintro e w7 ⟨rfl, rfl⟩)
            go_simp
            refine hK _ _ ?_
            clear hK K
            refine rd 32 (by kernel_rfl) rfl (fun K hK => ?_); go_simp; refine hK _ _ ?_; clear hK K
            refine rd 33 (by kernel_rfl) rfl (fun K hK => ?_); go_simp; refine hK _ _ ?_; clear hK K
            refine wpAny_done (by kernel_rfl) ?_ _
            go_wp2_with (fail)
            go_roundg (gk - 1)
            case measure => omega
            case rel => exact ⟨j + 1, some k, rfl, by simp, by omega, (by show k < all.length; rw [HNa.out]; omega), (HC6.out.below (Below.refl _ _).drew).also (Below.refl _ _) (fun k hk => hk.elim), HB6.out.drew⟩
          | false =>
            have hlt := of_decide_eq_false hlt
            have hkn : k = na := by omega
            rw [if_neg hlt] at HC4 ⊢
            simp only [Option.isSome_none]
            go_wp2_with (fail)
            go_must (refine HFi.out.mono ?_)
            rintro e w5 ⟨rfl, hb5⟩
            rw [HKa.out]
            subst hkn
            have HC5 := Lib.hid (HC4.out.below hb5)
            have HB5 := Lib.hid (HB4.out.trans (hb5.mono HB4.out.size))
            clear hb5 HC4 HB4 co4
            have HC4 := HC5
            have HB4 := HB5
            have HP := Lib.hid (pair_st hT HC4.out)
            simp only [pairAt] at HP
            go_wp2_with (fail)
            go_must (refine HP.out.mono ?_)
            rintro e w6 ⟨rfl, hb6⟩
            have HC6 := Lib.hid (HC4.out.below (hb6.alloc hb6.size (.cells #[strV [], strV []] 44)))
            have HB6 := Lib.hid ((HB4.out.trans (hb6.mono HB4.out.size)).alloc (Nat.le_trans HB4.out.size hb6.size) (.cells #[strV [], strV []] 44))
            have zc1 : (w6.alloc (.cells #[strV [], strV []] 44)).cell? ⟨w6.heap.size, 0, none⟩ = some (strV []) := (Blk.new w6 _ _).cell 0
            have zc2 : (w6.alloc (.cells #[strV [], strV []] 44)).cell? ⟨w6.heap.size, 1, none⟩ = some (strV []) := (Blk.new w6 _ _).cell 1
            clear hb6
            go_wp2_with (fail)
            refine wp_region_any (by kernel_rfl) ?_
            change wpAny _ _ _ _ _ _ _ (World.drew _)
            try simp only [Act.put, lT, l0, lS]
            refine tA 0 ?_; try simp only [Act.put, lT, l0, lS]
            refine tA 1 ?_; try simp only [Act.put, lT, l0, lS]
            refine tA 2 ?_; try simp only [Act.put, lT, l0, lS]
            refine tA 3 ?_; try simp only [Act.put, lT, l0, lS]
            refine tA 4 ?_; try simp only [Act.put, lT, l0, lS]
            refine tA 5 ?_; try simp only [Act.put, lT, l0, lS]
            refine tA 6 ?_; try simp only [Act.put, lT, l0, lS]
            refine tA 7 ?_; try simp only [Act.put, lT, l0, lS]
            refine tA 8 ?_; try simp only [Act.put, lT, l0, lS]
            refine tA 9 ?_; try simp only [Act.put, lT, l0, lS]
            refine tA 10 ?_; try simp only [Act.put, lT, l0, lS]
            refine tA 11 ?_; try simp only [Act.put, lT, l0, lS]
            try simp only [Act.put, lT, l0, lS]
            refine sA 12 ?_; try simp only [Act.put, lT, l0, lS]
            refine sA 13 ?_; try simp only [Act.put, lT, l0, lS]
            refine sA 14 ?_; try simp only [Act.put, lT, l0, lS]
            refine sA 15 ?_; try simp only [Act.put, lT, l0, lS]
            refine sA 16 ?_; try simp only [Act.put, lT, l0, lS]
            refine sA 17 ?_; try simp only [Act.put, lT, l0, lS]
            try simp only [Act.put, lT, l0, lS]
            refine tA 18 ?_; try simp only [Act.put, lT, l0, lS]
            refine tA 19 ?_; try simp only [Act.put, lT, l0, lS]
            refine tA 20 ?_; try simp only [Act.put, lT, l0, lS]
            refine tA 21 ?_; try simp only [Act.put, lT, l0, lS]
            refine tA 22 ?_; try simp only [Act.put, lT, l0, lS]
            refine tA 23 ?_; try simp only [Act.put, lT, l0, lS]
            refine tA 25 ?_; try simp only [Act.put, lT, l0, lS]
            try simp only [Act.put, lT, l0, lS]
            refine rA 24 (v := ?_) (hy := ?hy) ?_; case hy => (intro w hE; have q0 := hE.cell zc1; have q1 := hE.cell zc2; go_simp; try with_reducible rfl)
            try simp only [Act.put, lT, l0, lS]
            try simp only [Act.put, lT, l0, lS]
            refine tA 26 ?_; try simp only [Act.put, lT, l0, lS]
            refine tA 27 ?_; try simp only [Act.put, lT, l0, lS]
            refine tA 28 ?_; try simp only [Act.put, lT, l0, lS]
            refine tA 29 ?_; try simp only [Act.put, lT, l0, lS]
            refine tA 30 ?_; try simp only [Act.put, lT, l0, lS]
            refine rd 31 (by kernel_rfl) rfl (fun K hK => ?_); go_simp
            (go_must (refine (err_st (HC6.out.below (Below.refl _ _).drew)).mono ?_); rintro e w7 ⟨rfl, rfl⟩)
            go_simp
            refine hK _ _ ?_
            clear hK K
            refine rd 32 (by kernel_rfl) rfl (fun K hK => ?_); go_simp; refine hK _ _ ?_; clear hK K
            refine rd 33 (by kernel_rfl) rfl (fun K hK => ?_); go_simp; refine hK _ _ ?_; clear hK K
            refine wpAny_done (by kernel_rfl) ?_ _
            go_wp2_with (fail)
            go_roundg (gk - 1)
            case measure => omega
            case rel => exact ⟨j + 1, none, rfl, by simp, by omega, trivial, (HC6.out.below (Below.refl _ _).drew).also (Below.refl _ _) (fun k hk => hk.elim), HB6.out.drew⟩
        have d3 : (kind == (3 : Int)) = false := by simpa using k3
        by_cases k4 : kind = 4
        · subst k4
          clear k1 k2 k3
          cases o with
          | none =>
            have HF := Lib.hid (nextNo_st HC1.out)
            simp only [atV]
            go_wp2_with (fail)
            rw [HW1.out]
            go_must (refine HF.out.mono ?_)
            rintro e w4 ⟨rfl, rfl⟩
            have HC4 := HC1
            have HB4 := HBq
            try simp only [Option.isSome_none]
            have HP := Lib.hid (pair_st hT HC4.out)
            simp only [pairAt] at HP
            go_wp2_with (fail)
            go_must (refine HP.out.mono ?_)
            rintro e w6 ⟨rfl, hb6⟩
            have HC6 := Lib.hid (HC4.out.below (hb6.alloc hb6.size (.cells #[strV [], strV []] 44)))
            have HB6 := Lib.hid ((HB4.out.trans (hb6.mono HB4.out.size)).alloc (Nat.le_trans HB4.out.size hb6.size) (.cells #[strV [], strV []] 44))
            have zc1 : (w6.alloc (.cells #[strV [], strV []] 44)).cell? ⟨w6.heap.size, 0, none⟩ = some (strV []) := (Blk.new w6 _ _).cell 0
            have zc2 : (w6.alloc (.cells #[strV [], strV []] 44)).cell? ⟨w6.heap.size, 1, none⟩ = some (strV []) := (Blk.new w6 _ _).cell 1
            clear hb6
            go_wp2_with (fail)
            refine wp_region_any (by kernel_rfl) ?_
            change wpAny _ _ _ _ _ _ _ (World.drew _)
            try simp only [Act.put, lT, l0, lS]
            refine tA 0 ?_; try simp only [Act.put, lT, l0, lS]
            refine tA 1 ?_; try simp only [Act.put, lT, l0, lS]
            refine tA 2 ?_; try simp only [Act.put, lT, l0, lS]
            refine tA 3 ?_; try simp only [Act.put, lT, l0, lS]
            refine tA 4 ?_; try simp only [Act.put, lT, l0, lS]
            refine tA 5 ?_; try simp only [Act.put, lT, l0, lS]
            refine tA 6 ?_; try simp only [Act.put, lT, l0, lS]
            refine tA 7 ?_; try simp only [Act.put, lT, l0, lS]
            refine tA 8 ?_; try simp only [Act.put, lT, l0, lS]
            refine tA 9 ?_; try simp only [Act.put, lT, l0, lS]
            refine tA 10 ?_; try simp only [Act.put, lT, l0, lS]
            refine tA 11 ?_; try simp only [Act.put, lT, l0, lS]
            try simp only [Act.put, lT, l0, lS]
            refine sA 12 ?_; try simp only [Act.put, lT, l0, lS]
            refine sA 13 ?_; try simp only [Act.put, lT, l0, lS]
            refine sA 14 ?_; try simp only [Act.put, lT, l0, lS]
            refine sA 15 ?_; try simp only [Act.put, lT, l0, lS]
            refine sA 16 ?_; try simp only [Act.put, lT, l0, lS]
            refine sA 17 ?_; try simp only [Act.put, lT, l0, lS]
            try simp only [Act.put, lT, l0, lS]
            refine tA 18 ?_; try simp only [Act.put, lT, l0, lS]
            refine tA 19 ?_; try simp only [Act.put, lT, l0, lS]
            refine tA 20 ?_; try simp only [Act.put, lT, l0, lS]
            refine tA 21 ?_; try simp only [Act.put, lT, l0, lS]
            refine tA 22 ?_; try simp only [Act.put, lT, l0, lS]
            refine tA 23 ?_; try simp only [Act.put, lT, l0, lS]
            refine tA 25 ?_; try simp only [Act.put, lT, l0, lS]
            try simp only [Act.put, lT, l0, lS]
            refine rA 24 (v := ?_) (hy := ?hy) ?_; case hy => (intro w hE; have q0 := hE.cell zc1; have q1 := hE.cell zc2; go_simp; try with_reducible rfl)
            try simp only [Act.put, lT, l0, lS]
            try simp only [Act.put, lT, l0, lS]
            refine tA 26 ?_; try simp only [Act.put, lT, l0, lS]
            refine tA 27 ?_; try simp only [Act.put, lT, l0, lS]
            refine tA 28 ?_; try simp only [Act.put, lT, l0, lS]
            refine tA 29 ?_; try simp only [Act.put, lT, l0, lS]
            refine tA 30 ?_; try simp only [Act.put, lT, l0, lS]
            refine rd 31 (by kernel_rfl) rfl (fun K hK => ?_); go_simp
            (go_must (refine (err_st (HC6.out.below (Below.refl _ _).drew)).mono ?_); rintro e w7 ⟨rfl, rfl⟩)
            go_simp
            refine hK _ _ ?_
            clear hK K
            refine rd 32 (by kernel_rfl) rfl (fun K hK => ?_); go_simp; refine hK _ _ ?_; clear hK K
            refine rd 33 (by kernel_rfl) rfl (fun K hK => ?_); go_simp; refine hK _ _ ?_; clear hK K
            refine wpAny_done (by kernel_rfl) ?_ _
            go_wp2_with (fail)
            go_roundg (gk - 1)
            case measure => omega
            case rel => exact ⟨j + 1, none, rfl, by simp, by omega, trivial, (HC6.out.below (Below.refl _ _).drew).also (Below.refl _ _) (fun k hk => hk.elim), HB6.out.drew⟩
          | some i =>
            have HF := Lib.hid (next_st hT (by rw [HNa.out]; exact hlen) HC1.out)
            have hi : i < na := by rw [← HNa.out]; exact hok.out
            obtain ⟨k, hk⟩ : ∃ k, i + 1 = k := ⟨_, rfl⟩
            rw [hk, HNa.out] at HF
            have hw2 : IntKind.i64.wrap ((i : Int) + 1) = (k : Int) := by rw [IntWalk.i64_in _ (by omega)]; omega
            have hi0 : (0 : Int) ≤ (i : Int) := by omega
            have hkle : k ≤ na := by omega
            have hkb : (0 : Int) ≤ (k : Int) := by omega
            simp only [atV]
            clear hk
            go_wp2_with (fail)
            rw [HW1.out]
            go_must (refine HF.out.mono ?_)
            rintro e w4 ⟨rfl, hst4, hk4⟩
            have HC4 := Lib.hid hst4
            have HB4 := Lib.hid (HBq.out.trans (below_frm hk4 HBq.out.size))
            clear hst4 hk4
            cases hlt : decide (k < na) with
            | true =>
              have hlt := of_decide_eq_true hlt
              have hka : (k : Int) < (na : Int) := by omega
              rw [if_pos hlt] at HC4 ⊢
              simp only [Option.isSome_some]
              try simp only [Option.isSome_some]
              obtain ⟨q, hq⟩ : ∃ q, all[k]? = some q := ⟨_, List.getElem?_eq_getElem (by rw [HNa.out]; omega)⟩
              have HP := Lib.hid (pair_st hT HC4.out)
              simp only [pairAt, hq, Option.getD_some] at HP
              obtain ⟨qk, qv⟩ := q
              have HQ := Lib.hid hq
              clear hq
              go_wp2_with (fail)
              go_must (refine HP.out.mono ?_)
              rintro e w6 ⟨rfl, hb6⟩
              have HC6 := Lib.hid (HC4.out.below (hb6.alloc hb6.size (.cells #[strV qk, strV qv] 44)))
              have HB6 := Lib.hid ((HB4.out.trans (hb6.mono HB4.out.size)).alloc (Nat.le_trans HB4.out.size hb6.size) (.cells #[strV qk, strV qv] 44))
              have zc1 : (w6.alloc (.cells #[strV qk, strV qv] 44)).cell? ⟨w6.heap.size, 0, none⟩ = some (strV qk) := (Blk.new w6 _ _).cell 0
              have zc2 : (w6.alloc (.cells #[strV qk, strV qv] 44)).cell? ⟨w6.heap.size, 1, none⟩ = some (strV qv) := (Blk.new w6 _ _).cell 1
              obtain ⟨_, _, e0, _, _, hcx⟩ := HX2.out.below HB6.out
              cases e0
              obtain ⟨bx, ox, rfl, _, hcx⟩ := hcx (by omega)
              obtain ⟨p1, p2⟩ := pairsCs_at all k (by rw [HNa.out]; omega)
              have hqe : all[k]'(by rw [HNa.out]; omega) = (qk, qv) := by
                have := HQ.out
                rw [List.getElem?_eq_getElem (by rw [HNa.out]; omega)] at this
                exact Option.some.inj this
              rw [hqe] at p1 p2
              have y1 : (w6.alloc (.cells #[strV qk, strV qv] 44)).cell? ⟨bx, ox + k * 2, none⟩ = some (strV qk) := hcx _ _ p1
              have y2 : (w6.alloc (.cells #[strV qk, strV qv] 44)).cell? ⟨bx, ox + k * 2 + 1, none⟩ = some (strV qv) := hcx _ _ p2
              clear hb6 p1 p2 hcx hqe
              go_wp2_with (fail)
              refine wp_region_any (by kernel_rfl) ?_
              change wpAny _ _ _ _ _ _ _ (World.drew _)
              try simp only [Act.put, lT, l0, lS]
              refine tA 0 ?_; try simp only [Act.put, lT, l0, lS]
              refine tA 1 ?_; try simp only [Act.put, lT, l0, lS]
              refine tA 2 ?_; try simp only [Act.put, lT, l0, lS]
              refine tA 3 ?_; try simp only [Act.put, lT, l0, lS]
              refine tA 4 ?_; try simp only [Act.put, lT, l0, lS]
              refine tA 5 ?_; try simp only [Act.put, lT, l0, lS]
              refine tA 6 ?_; try simp only [Act.put, lT, l0, lS]
              refine tA 7 ?_; try simp only [Act.put, lT, l0, lS]
              refine tA 8 ?_; try simp only [Act.put, lT, l0, lS]
              refine tA 9 ?_; try simp only [Act.put, lT, l0, lS]
              refine tA 10 ?_; try simp only [Act.put, lT, l0, lS]
              refine tA 11 ?_; try simp only [Act.put, lT, l0, lS]
              refine tA 13 ?_; try simp only [Act.put, lT, l0, lS]
              refine tA 14 ?_; try simp only [Act.put, lT, l0, lS]
              refine tA 15 ?_; try simp only [Act.put, lT, l0, lS]
              try simp only [Act.put, lT, l0, lS]
              refine rA 12 (v := ?_) (hy := ?hy) ?_; case hy => (intro w hE; have q0 := hE.cell zc1; have q1 := hE.cell zc2; go_simp; try with_reducible rfl)
              try simp only [Act.put, lT, l0, lS]
              try simp only [Act.put, lT, l0, lS]
              refine rA 16 (v := ?_) (hy := ?hy) ?_; case hy => (intro w hE; have q0 := hE.cell y1; have q1 := hE.cell y2; go_simp; try with_reducible rfl)
              try simp only [Act.put, lT, l0, lS]
              try simp only [Act.put, lT, l0, lS]
              refine tA 17 ?_; try simp only [Act.put, lT, l0, lS]
              refine tA 18 ?_; try simp only [Act.put, lT, l0, lS]
              refine tA 19 ?_; try simp only [Act.put, lT, l0, lS]
              refine tA 20 ?_; try simp only [Act.put, lT, l0, lS]
              refine tA 21 ?_; try simp only [Act.put, lT, l0, lS]
              refine tA 22 ?_; try simp only [Act.put, lT, l0, lS]
              refine tA 23 ?_; try simp only [Act.put, lT, l0, lS]
              try simp only [Act.put, lT, l0, lS]
              refine sA 24 ?_; try simp only [Act.put, lT, l0, lS]
              refine sA 25 ?_; try simp only [Act.put, lT, l0, lS]
              refine sA 26 ?_; try simp only [Act.put, lT, l0, lS]
              try simp only [Act.put, lT, l0, lS]
              refine tA 27 ?_; try simp only [Act.put, lT, l0, lS]
              refine tA 28 ?_; try simp only [Act.put, lT, l0, lS]
              refine tA 29 ?_; try simp only [Act.put, lT, l0, lS]
              refine tA 30 ?_; try simp only [Act.put, lT, l0, lS]
              refine rd 31 (by kernel_rfl) rfl (fun K hK => ?_); go_simp
              (go_must (refine (err_st (HC6.out.below (Below.refl _ _).drew)).mono ?_); rintro e w7 ⟨rfl, rfl⟩)
              go_simp
              refine hK _ _ ?_
              clear hK K
              refine rd 32 (by kernel_rfl) rfl (fun K hK => ?_); go_simp; refine hK _ _ ?_; clear hK K
              refine rd 33 (by kernel_rfl) rfl (fun K hK => ?_); go_simp; refine hK _ _ ?_; clear hK K
              refine wpAny_done (by kernel_rfl) ?_ _
              go_wp2_with (fail)
              go_roundg (gk - 1)
              case measure => omega
              case rel => exact ⟨j + 1, some k, rfl, by simp, by omega, (by show k < all.length; rw [HNa.out]; omega), (HC6.out.below (Below.refl _ _).drew).also (Below.refl _ _) (fun k hk => hk.elim), HB6.out.drew⟩
            | false =>
              have hlt := of_decide_eq_false hlt
              have hkn : k = na := by omega
              rw [if_neg hlt] at HC4 ⊢
              simp only [Option.isSome_none]
              subst hkn
              have HP := Lib.hid (pair_st hT HC4.out)
              simp only [pairAt] at HP
              go_wp2_with (fail)
              go_must (refine HP.out.mono ?_)
              rintro e w6 ⟨rfl, hb6⟩
              have HC6 := Lib.hid (HC4.out.below (hb6.alloc hb6.size (.cells #[strV [], strV []] 44)))
              have HB6 := Lib.hid ((HB4.out.trans (hb6.mono HB4.out.size)).alloc (Nat.le_trans HB4.out.size hb6.size) (.cells #[strV [], strV []] 44))
              have zc1 : (w6.alloc (.cells #[strV [], strV []] 44)).cell? ⟨w6.heap.size, 0, none⟩ = some (strV []) := (Blk.new w6 _ _).cell 0
              have zc2 : (w6.alloc (.cells #[strV [], strV []] 44)).cell? ⟨w6.heap.size, 1, none⟩ = some (strV []) := (Blk.new w6 _ _).cell 1
              clear hb6
              go_wp2_with (fail)
              refine wp_region_any (by kernel_rfl) ?_
              change wpAny _ _ _ _ _ _ _ (World.drew _)
              try simp only [Act.put, lT, l0, lS]
              refine tA 0 ?_; try simp only [Act.put, lT, l0, lS]
              refine tA 1 ?_; try simp only [Act.put, lT, l0, lS]
              refine tA 2 ?_; try simp only [Act.put, lT, l0, lS]
              refine tA 3 ?_; try simp only [Act.put, lT, l0, lS]
              refine tA 4 ?_; try simp only [Act.put, lT, l0, lS]
              refine tA 5 ?_; try simp only [Act.put, lT, l0, lS]
              refine tA 6 ?_; try simp only [Act.put, lT, l0, lS]
              refine tA 7 ?_; try simp only [Act.put, lT, l0, lS]
              refine tA 8 ?_; try simp only [Act.put, lT, l0, lS]
              refine tA 9 ?_; try simp only [Act.put, lT, l0, lS]
              refine tA 10 ?_; try simp only [Act.put, lT, l0, lS]
              refine tA 11 ?_; try simp only [Act.put, lT, l0, lS]
              try simp only [Act.put, lT, l0, lS]
              refine sA 12 ?_; try simp only [Act.put, lT, l0, lS]
              refine sA 13 ?_; try simp only [Act.put, lT, l0, lS]
              refine sA 14 ?_; try simp only [Act.put, lT, l0, lS]
              refine sA 15 ?_; try simp only [Act.put, lT, l0, lS]
              refine sA 16 ?_; try simp only [Act.put, lT, l0, lS]
              refine sA 17 ?_; try simp only [Act.put, lT, l0, lS]
              try simp only [Act.put, lT, l0, lS]
              refine tA 18 ?_; try simp only [Act.put, lT, l0, lS]
              refine tA 19 ?_; try simp only [Act.put, lT, l0, lS]
              refine tA 20 ?_; try simp only [Act.put, lT, l0, lS]
              refine tA 21 ?_; try simp only [Act.put, lT, l0, lS]
              refine tA 22 ?_; try simp only [Act.put, lT, l0, lS]
              refine tA 23 ?_; try simp only [Act.put, lT, l0, lS]
              refine tA 25 ?_; try simp only [Act.put, lT, l0, lS]
              try simp only [Act.put, lT, l0, lS]
              refine rA 24 (v := ?_) (hy := ?hy) ?_; case hy => (intro w hE; have q0 := hE.cell zc1; have q1 := hE.cell zc2; go_simp; try with_reducible rfl)
              try simp only [Act.put, lT, l0, lS]
              try simp only [Act.put, lT, l0, lS]
              refine tA 26 ?_; try simp only [Act.put, lT, l0, lS]
              refine tA 27 ?_; try simp only [Act.put, lT, l0, lS]
              refine tA 28 ?_; try simp only [Act.put, lT, l0, lS]
              refine tA 29 ?_; try simp only [Act.put, lT, l0, lS]
              refine tA 30 ?_; try simp only [Act.put, lT, l0, lS]
              refine rd 31 (by kernel_rfl) rfl (fun K hK => ?_); go_simp
              (go_must (refine (err_st (HC6.out.below (Below.refl _ _).drew)).mono ?_); rintro e w7 ⟨rfl, rfl⟩)
              go_simp
              refine hK _ _ ?_
              clear hK K
              refine rd 32 (by kernel_rfl) rfl (fun K hK => ?_); go_simp; refine hK _ _ ?_; clear hK K
              refine rd 33 (by kernel_rfl) rfl (fun K hK => ?_); go_simp; refine hK _ _ ?_; clear hK K
              refine wpAny_done (by kernel_rfl) ?_ _
              go_wp2_with (fail)
              go_roundg (gk - 1)
              case measure => omega
              case rel => exact ⟨j + 1, none, rfl, by simp, by omega, trivial, (HC6.out.below (Below.refl _ _).drew).also (Below.refl _ _) (fun k hk => hk.elim), HB6.out.drew⟩
        have d4 : (kind == (4 : Int)) = false := by simpa using k4
        clear k1 k2 k3 k4
        cases o with
        | none =>
          have HF := Lib.hid (prevNo_st HC1.out)
          simp only [atV]
          go_wp2_with (fail)
          rw [HW1.out]
          go_must (refine HF.out.mono ?_)
          rintro e w4 ⟨rfl, rfl⟩
          have HC4 := HC1
          have HB4 := HBq
          try simp only [Option.isSome_none]
          have HP := Lib.hid (pair_st hT HC4.out)
          simp only [pairAt] at HP
          go_wp2_with (fail)
          go_must (refine HP.out.mono ?_)
          rintro e w6 ⟨rfl, hb6⟩
          have HC6 := Lib.hid (HC4.out.below (hb6.alloc hb6.size (.cells #[strV [], strV []] 44)))
          have HB6 := Lib.hid ((HB4.out.trans (hb6.mono HB4.out.size)).alloc (Nat.le_trans HB4.out.size hb6.size) (.cells #[strV [], strV []] 44))
          have zc1 : (w6.alloc (.cells #[strV [], strV []] 44)).cell? ⟨w6.heap.size, 0, none⟩ = some (strV []) := (Blk.new w6 _ _).cell 0
          have zc2 : (w6.alloc (.cells #[strV [], strV []] 44)).cell? ⟨w6.heap.size, 1, none⟩ = some (strV []) := (Blk.new w6 _ _).cell 1
          clear hb6
          go_wp2_with (fail)
          refine wp_region_any (by kernel_rfl) ?_
          change wpAny _ _ _ _ _ _ _ (World.drew _)
          try simp only [Act.put, lT, l0, lS]
          refine tA 0 ?_; try simp only [Act.put, lT, l0, lS]
          refine tA 1 ?_; try simp only [Act.put, lT, l0, lS]
          refine tA 2 ?_; try simp only [Act.put, lT, l0, lS]
          refine tA 3 ?_; try simp only [Act.put, lT, l0, lS]
          refine tA 4 ?_; try simp only [Act.put, lT, l0, lS]
          refine tA 5 ?_; try simp only [Act.put, lT, l0, lS]
          refine tA 6 ?_; try simp only [Act.put, lT, l0, lS]
          refine tA 7 ?_; try simp only [Act.put, lT, l0, lS]
          refine tA 8 ?_; try simp only [Act.put, lT, l0, lS]
          refine tA 9 ?_; try simp only [Act.put, lT, l0, lS]
          refine tA 10 ?_; try simp only [Act.put, lT, l0, lS]
          refine tA 11 ?_; try simp only [Act.put, lT, l0, lS]
          try simp only [Act.put, lT, l0, lS]
          refine sA 12 ?_; try simp only [Act.put, lT, l0, lS]
          refine sA 13 ?_; try simp only [Act.put, lT, l0, lS]
          refine sA 14 ?_; try simp only [Act.put, lT, l0, lS]
          refine sA 15 ?_; try simp only [Act.put, lT, l0, lS]
          refine sA 16 ?_; try simp only [Act.put, lT, l0, lS]
          refine sA 17 ?_; try simp only [Act.put, lT, l0, lS]
          try simp only [Act.put, lT, l0, lS]
          refine tA 18 ?_; try simp only [Act.put, lT, l0, lS]
          refine tA 19 ?_; try simp only [Act.put, lT, l0, lS]
          refine tA 20 ?_; try simp only [Act.put, lT, l0, lS]
          refine tA 21 ?_; try simp only [Act.put, lT, l0, lS]
          refine tA 22 ?_; try simp only [Act.put, lT, l0, lS]
          refine tA 23 ?_; try simp only [Act.put, lT, l0, lS]
          refine tA 25 ?_; try simp only [Act.put, lT, l0, lS]
          try simp only [Act.put, lT, l0, lS]
          refine rA 24 (v := ?_) (hy := ?hy) ?_; case hy => (intro w hE; have q0 := hE.cell zc1; have q1 := hE.cell zc2; go_simp; try with_reducible rfl)
          try simp only [Act.put, lT, l0, lS]
          try simp only [Act.put, lT, l0, lS]
          refine tA 26 ?_; try simp only [Act.put, lT, l0, lS]
          refine tA 27 ?_; try simp only [Act.put, lT, l0, lS]
          refine tA 28 ?_; try simp only [Act.put, lT, l0, lS]
          refine tA 29 ?_; try simp only [Act.put, lT, l0, lS]
          refine tA 30 ?_; try simp only [Act.put, lT, l0, lS]
          refine rd 31 (by kernel_rfl) rfl (fun K hK => ?_); go_simp
          (go_must (refine (err_st (HC6.out.below (Below.refl _ _).drew)).mono ?_); rintro e w7 ⟨rfl, rfl⟩)
          go_simp
          refine hK _ _ ?_
          clear hK K
          refine rd 32 (by kernel_rfl) rfl (fun K hK => ?_); go_simp; refine hK _ _ ?_; clear hK K
          refine rd 33 (by kernel_rfl) rfl (fun K hK => ?_); go_simp; refine hK _ _ ?_; clear hK K
          refine wpAny_done (by kernel_rfl) ?_ _
          go_wp2_with (fail)
          go_roundg (gk - 1)
          case measure => omega
          case rel => exact ⟨j + 1, none, rfl, by simp, by omega, trivial, (HC6.out.below (Below.refl _ _).drew).also (Below.refl _ _) (fun k hk => hk.elim), HB6.out.drew⟩
        | some i =>
          have HF := Lib.hid (prev_st hT (by rw [HNa.out]; exact hlen) HC1.out)
          have hi : i < na := by rw [← HNa.out]; exact hok.out
          have hi0 : (0 : Int) ≤ (i : Int) := by omega
          simp only [atV]
          cases i with
          | zero =>
            rw [if_neg (Nat.lt_irrefl 0)] at HF
            go_wp2_with (fail)
            rw [HW1.out]
            go_must (refine HF.out.mono ?_)
            rintro e w4 ⟨rfl, hst4, hk4⟩
            have HC4 := Lib.hid hst4
            have HB4 := Lib.hid (HBq.out.trans (below_frm hk4 HBq.out.size))
            clear hst4 hk4
            simp only [Option.isSome_none]
            try simp only [Option.isSome_none]
            have HP := Lib.hid (pair_st hT HC4.out)
            simp only [pairAt] at HP
            go_wp2_with (fail)
            go_must (refine HP.out.mono ?_)
            rintro e w6 ⟨rfl, hb6⟩
            have HC6 := Lib.hid (HC4.out.below (hb6.alloc hb6.size (.cells #[strV [], strV []] 44)))
            have HB6 := Lib.hid ((HB4.out.trans (hb6.mono HB4.out.size)).alloc (Nat.le_trans HB4.out.size hb6.size) (.cells #[strV [], strV []] 44))
            have zc1 : (w6.alloc (.cells #[strV [], strV []] 44)).cell? ⟨w6.heap.size, 0, none⟩ = some (strV []) := (Blk.new w6 _ _).cell 0
            have zc2 : (w6.alloc (.cells #[strV [], strV []] 44)).cell? ⟨w6.heap.size, 1, none⟩ = some (strV []) := (Blk.new w6 _ _).cell 1
            clear hb6
            go_wp2_with (fail)
            refine wp_region_any (by kernel_rfl) ?_
            change wpAny _ _ _ _ _ _ _ (World.drew _)
            try simp only [Act.put, lT, l0, lS]
            refine tA 0 ?_; try simp only [Act.put, lT, l0, lS]
            refine tA 1 ?_; try simp only [Act.put, lT, l0, lS]
            refine tA 2 ?_; try simp only [Act.put, lT, l0, lS]
            refine tA 3 ?_; try simp only [Act.put, lT, l0, lS]
            refine tA 4 ?_; try simp only [Act.put, lT, l0, lS]
            refine tA 5 ?_; try simp only [Act.put, lT, l0, lS]
            refine tA 6 ?_; try simp only [Act.put, lT, l0, lS]
            refine tA 7 ?_; try simp only [Act.put, lT, l0, lS]
            refine tA 8 ?_; try simp only [Act.put, lT, l0, lS]
            refine tA 9 ?_; try simp only [Act.put, lT, l0, lS]
            refine tA 10 ?_; try simp only [Act.put, lT, l0, lS]
            refine tA 11 ?_; try simp only [Act.put, lT, l0, lS]
            try simp only [Act.put, lT, l0, lS]
            refine sA 12 ?_; try simp only [Act.put, lT, l0, lS]
            refine sA 13 ?_; try simp only [Act.put, lT, l0, lS]
            refine sA 14 ?_; try simp only [Act.put, lT, l0, lS]
            refine sA 15 ?_; try simp only [Act.put, lT, l0, lS]
            refine sA 16 ?_; try simp only [Act.put, lT, l0, lS]
            refine sA 17 ?_; try simp only [Act.put, lT, l0, lS]
            try simp only [Act.put, lT, l0, lS]
            refine tA 18 ?_; try simp only [Act.put, lT, l0, lS]
            refine tA 19 ?_; try simp only [Act.put, lT, l0, lS]
            refine tA 20 ?_; try simp only [Act.put, lT, l0, lS]
            refine tA 21 ?_; try simp only [Act.put, lT, l0, lS]
            refine tA 22 ?_; try simp only [Act.put, lT, l0, lS]
            refine tA 23 ?_; try simp only [Act.put, lT, l0, lS]
            refine tA 25 ?_; try simp only [Act.put, lT, l0, lS]
            try simp only [Act.put, lT, l0, lS]
            refine rA 24 (v := ?_) (hy := ?hy) ?_; case hy => (intro w hE; have q0 := hE.cell zc1; have q1 := hE.cell zc2; go_simp; try with_reducible rfl)
            try simp only [Act.put, lT, l0, lS]
            try simp only [Act.put, lT, l0, lS]
            refine tA 26 ?_; try simp only [Act.put, lT, l0, lS]
            refine tA 27 ?_; try simp only [Act.put, lT, l0, lS]
            refine tA 28 ?_; try simp only [Act.put, lT, l0, lS]
            refine tA 29 ?_; try simp only [Act.put, lT, l0, lS]
            refine tA 30 ?_; try simp only [Act.put, lT, l0, lS]
            refine rd 31 (by kernel_rfl) rfl (fun K hK => ?_); go_simp
            (go_must (refine (err_st (HC6.out.below (Below.refl _ _).drew)).mono ?_); rintro e w7 ⟨rfl, rfl⟩)
            go_simp
            refine hK _ _ ?_
            clear hK K
            refine rd 32 (by kernel_rfl) rfl (fun K hK => ?_); go_simp; refine hK _ _ ?_; clear hK K
            refine rd 33 (by kernel_rfl) rfl (fun K hK => ?_); go_simp; refine hK _ _ ?_; clear hK K
            refine wpAny_done (by kernel_rfl) ?_ _
            go_wp2_with (fail)
            go_roundg (gk - 1)
            case measure => omega
            case rel => exact ⟨j + 1, none, rfl, by simp, by omega, trivial, (HC6.out.below (Below.refl _ _).drew).also (Below.refl _ _) (fun k hk => hk.elim), HB6.out.drew⟩
          | succ k =>
            rw [if_pos (Nat.succ_pos k), Nat.add_sub_cancel] at HF
            obtain ⟨i1, hi1⟩ : ∃ i1, k + 1 = i1 := ⟨_, rfl⟩
            rw [hi1] at hi hi0 ⊢
            have hw2 : IntKind.i64.wrap ((i1 : Int) - 1) = (k : Int) := by rw [IntWalk.i64_in _ (by omega)]; omega
            have hka : (k : Int) < (na : Int) := by omega
            have hkb : (0 : Int) ≤ (k : Int) := by omega
            have HI1 := Lib.hid hi1
            clear hi1
            go_wp2_with (fail)
            rw [HW1.out]
            go_must (refine HF.out.mono ?_)
            rintro e w4 ⟨rfl, hst4, hk4⟩
            have HC4 := Lib.hid hst4
            have HB4 := Lib.hid (HBq.out.trans (below_frm hk4 HBq.out.size))
            clear hst4 hk4
            simp only [Option.isSome_some]
            try simp only [Option.isSome_some]
            obtain ⟨q, hq⟩ : ∃ q, all[k]? = some q := ⟨_, List.getElem?_eq_getElem (by rw [HNa.out]; omega)⟩
            have HP := Lib.hid (pair_st hT HC4.out)
            simp only [pairAt, hq, Option.getD_some] at HP
            obtain ⟨qk, qv⟩ := q
            have HQ := Lib.hid hq
            clear hq
            go_wp2_with (fail)
            go_must (refine HP.out.mono ?_)
            rintro e w6 ⟨rfl, hb6⟩
            have HC6 := Lib.hid (HC4.out.below (hb6.alloc hb6.size (.cells #[strV qk, strV qv] 44)))
            have HB6 := Lib.hid ((HB4.out.trans (hb6.mono HB4.out.size)).alloc (Nat.le_trans HB4.out.size hb6.size) (.cells #[strV qk, strV qv] 44))
            have zc1 : (w6.alloc (.cells #[strV qk, strV qv] 44)).cell? ⟨w6.heap.size, 0, none⟩ = some (strV qk) := (Blk.new w6 _ _).cell 0
            have zc2 : (w6.alloc (.cells #[strV qk, strV qv] 44)).cell? ⟨w6.heap.size, 1, none⟩ = some (strV qv) := (Blk.new w6 _ _).cell 1
            obtain ⟨_, _, e0, _, _, hcx⟩ := HX2.out.below HB6.out
            cases e0
            obtain ⟨bx, ox, rfl, _, hcx⟩ := hcx (by omega)
            obtain ⟨p1, p2⟩ := pairsCs_at all k (by rw [HNa.out]; omega)
            have hqe : all[k]'(by rw [HNa.out]; omega) = (qk, qv) := by
              have := HQ.out
              rw [List.getElem?_eq_getElem (by rw [HNa.out]; omega)] at this
              exact Option.some.inj this
            rw [hqe] at p1 p2
            have y1 : (w6.alloc (.cells #[strV qk, strV qv] 44)).cell? ⟨bx, ox + k * 2, none⟩ = some (strV qk) := hcx _ _ p1
            have y2 : (w6.alloc (.cells #[strV qk, strV qv] 44)).cell? ⟨bx, ox + k * 2 + 1, none⟩ = some (strV qv) := hcx _ _ p2
            clear hb6 p1 p2 hcx hqe
            go_wp2_with (fail)
            refine wp_region_any (by kernel_rfl) ?_
            change wpAny _ _ _ _ _ _ _ (World.drew _)
            try simp only [Act.put, lT, l0, lS]
            refine tA 0 ?_; try simp only [Act.put, lT, l0, lS]
            refine tA 1 ?_; try simp only [Act.put, lT, l0, lS]
            refine tA 2 ?_; try simp only [Act.put, lT, l0, lS]
            refine tA 3 ?_; try simp only [Act.put, lT, l0, lS]
            refine tA 4 ?_; try simp only [Act.put, lT, l0, lS]
            refine tA 5 ?_; try simp only [Act.put, lT, l0, lS]
            refine tA 6 ?_; try simp only [Act.put, lT, l0, lS]
            refine tA 7 ?_; try simp only [Act.put, lT, l0, lS]
            refine tA 8 ?_; try simp only [Act.put, lT, l0, lS]
            refine tA 9 ?_; try simp only [Act.put, lT, l0, lS]
            refine tA 10 ?_; try simp only [Act.put, lT, l0, lS]
            refine tA 11 ?_; try simp only [Act.put, lT, l0, lS]
            refine tA 13 ?_; try simp only [Act.put, lT, l0, lS]
            refine tA 14 ?_; try simp only [Act.put, lT, l0, lS]
            refine tA 15 ?_; try simp only [Act.put, lT, l0, lS]
            try simp only [Act.put, lT, l0, lS]
            refine rA 12 (v := ?_) (hy := ?hy) ?_; case hy => (intro w hE; have q0 := hE.cell zc1; have q1 := hE.cell zc2; go_simp; try with_reducible rfl)
            try simp only [Act.put, lT, l0, lS]
            try simp only [Act.put, lT, l0, lS]
            refine rA 16 (v := ?_) (hy := ?hy) ?_; case hy => (intro w hE; have q0 := hE.cell y1; have q1 := hE.cell y2; go_simp; try with_reducible rfl)
            try simp only [Act.put, lT, l0, lS]
            try simp only [Act.put, lT, l0, lS]
            refine tA 17 ?_; try simp only [Act.put, lT, l0, lS]
            refine tA 18 ?_; try simp only [Act.put, lT, l0, lS]
            refine tA 19 ?_; try simp only [Act.put, lT, l0, lS]
            refine tA 20 ?_; try simp only [Act.put, lT, l0, lS]
            refine tA 21 ?_; try simp only [Act.put, lT, l0, lS]
            refine tA 22 ?_; try simp only [Act.put, lT, l0, lS]
            refine tA 23 ?_; try simp only [Act.put, lT, l0, lS]
            try simp only [Act.put, lT, l0, lS]
            refine sA 24 ?_; try simp only [Act.put, lT, l0, lS]
            refine sA 25 ?_; try simp only [Act.put, lT, l0, lS]
            refine sA 26 ?_; try simp only [Act.put, lT, l0, lS]
            try simp only [Act.put, lT, l0, lS]
            refine tA 27 ?_; try simp only [Act.put, lT, l0, lS]
            refine tA 28 ?_; try simp only [Act.put, lT, l0, lS]
            refine tA 29 ?_; try simp only [Act.put, lT, l0, lS]
            refine tA 30 ?_; try simp only [Act.put, lT, l0, lS]
            refine rd 31 (by kernel_rfl) rfl (fun K hK => ?_); go_simp
            (go_must (refine (err_st (HC6.out.below (Below.refl _ _).drew)).mono ?_); rintro e w7 ⟨rfl, rfl⟩)
            go_simp
            refine hK _ _ ?_
            clear hK K
            refine rd 32 (by kernel_rfl) rfl (fun K hK => ?_); go_simp; refine hK _ _ ?_; clear hK K
            refine rd 33 (by kernel_rfl) rfl (fun K hK => ?_); go_simp; refine hK _ _ ?_; clear hK K
            refine wpAny_done (by kernel_rfl) ?_ _
            go_wp2_with (fail)
            go_roundg (gk - 1)
            case measure => omega
            case rel => exact ⟨j + 1, some k, rfl, by simp, by omega, (by show k < all.length; rw [HNa.out]; omega), (HC6.out.below (Below.refl _ _).drew).also (Below.refl _ _) (fun k hk => hk.elim), HB6.out.drew⟩
      · have h1' : ¬ (j : Int) < (n2 : Int) := by omega
        have hbww : Below w.heap.size w wr := HB2.out.trans (hbw.out.mono HB2.out.size)
        have HBw := Lib.hid hbww
        have HPr := Lib.hid (HPg2.out.below hbw.out)
        have HXr := Lib.hid (HX2.out.below hbw.out)
        obtain ⟨R, hR⟩ : ∃ R, rangeP lo hi most all = R := ⟨_, rfl⟩
        have hRl : R.length ≤ 511 := by
          have h3 : (rangeP lo hi most all).length ≤ all.length := rangeP_few
          rw [hR, HNa.out] at h3
          omega
        have HR := Lib.hid hR
        have hKp : Hid (∃ pv wv ms ws, Kp wr.heap.size wr.heap.size R 0 (wr.alloc (.cells (bookCs (.slice none 0 0) (.slice none 0 0)) 61)) pv wv ms ws) := ⟨_, _, _, _, Kp.new wr R⟩
        clear hst hok hbw hbww hR
        go_wp2_with (fail)
        obtain ⟨wo, hwo⟩ : ∃ x, x = wr := ⟨_, rfl⟩
        subst hwo
        go_loopg [23] 2 (fun gk s23 wr2 => ∃ k : Nat, s23 = .int .i64 (k : Int) ∧ k + gk = 2 ∧ Hid (∃ pv wv ms ws, Kp wo.heap.size wo.heap.size R k wr2 pv wv ms ws) ∧ Hid (Below wo.heap.size wo wr2))
        case atStart => exact ⟨0, rfl, by omega, hKp.out, (Below.refl _ wo).alloc (Nat.le_refl _) _⟩
        case round =>
          clear hKp
          obtain ⟨wr2, hwo⟩ : ∃ x, x = wr := ⟨_, rfl⟩
          subst hwo
          obtain ⟨k, rfl, hk, hkp, hb2⟩ := hrel
          obtain ⟨pv, wv, ms, ws, hKp⟩ := hkp.out
          have HKp := Lib.hid hKp
          have HBr := Lib.hid hb2.out
          clear hKp hkp hb2
          by_cases hk2 : k < 2
          · have hk2' : (k : Int) < 2 := by omega
            have hw1 : IntKind.i64.wrap ((k : Int) + 1) = (k : Int) + 1 := IntWalk.i64_in _ (by omega)
            have hRg := range_any root lo hi most all wr2 (HPr.out.below HBr.out) hT (by rw [HNa.out]; exact hlen)
            rw [HR.out] at hRg
            have HRg := Lib.hid hRg
            clear hRg
            go_wp2_with (fail)
            go_must (refine HRg.out.mono ?_)
            rintro e w3 ⟨v, rfl, hcl, hb3⟩
            obtain ⟨A3, rfl, hA3, hsl3⟩ := hcl.sl
            have HB3 := Lib.hid hb3
            have HPp := Lib.hid (HKp.out.pairs hb3 hcl (by omega) (by omega))
            obtain ⟨nr, hnr⟩ : ∃ m, R.length = m := ⟨_, rfl⟩
            have HNr := Lib.hid hnr
            rw [hnr] at HPp hRl ⊢
            clear hcl hb3 hA3 hsl3 hnr
            go_wp2_with (fail)
            go_must (refine HPp.out.mono ?_)
            rintro e w4 ⟨rfl, pv', wv', ms', ws', hKp4, hb4, hcl4⟩
            have hbo4 : Below wo.heap.size wo w4 := (HBr.out.trans (HB3.out.mono HBr.out.size)).trans hb4
            have HK4 := Lib.hid (And.intro hKp4 (And.intro hbo4 hcl4))
            have hRR := refRange_any X na cx all lo hi most w4 (HXr.out.below hbo4) (by omega) HLo.out HHi.out HKn.out.short
            rw [ref_range all HKn.out.rise, HR.out, HNr.out] at hRR
            have HRR := Lib.hid hRR
            clear hKp4 hb4 hcl4 hbo4 hRR
            go_wp2_with (fail)
            go_must (refine HRR.out.mono ?_)
            rintro e w5 ⟨v5, rfl, hown5, hb5⟩
            obtain ⟨A5, c5, rfl, -⟩ := Sl.of_own hown5
            obtain ⟨A3', e3, _, hsl4⟩ := HK4.out.2.2.sl
            rw [HNr.out] at e3 hsl4
            cases e3
            have hSm := samePairs_any A3 A5 nr nr nr c5 R R w5 (hsl4.below hb5) (Sl.of_own hown5) (by omega) (by omega)
            rw [decide_eq_true rfl] at hSm
            have HSm := Lib.hid hSm
            have HB5 := Lib.hid hb5
            clear hSm hb5 hown5 hsl4
            go_wp2_with (fail)
            go_must (refine HSm.out.mono ?_)
            rintro e w6 ⟨rfl, hb6⟩
            have hb46 : Below w4.heap.size w4 w6 := HB5.out.trans (hb6.mono HB5.out.size)
            have HF := Lib.hid (And.intro (HK4.out.1.below hb46) (HK4.out.2.1.trans (hb46.mono HK4.out.2.1.size)))
            clear hb6 hb46
            go_wp2_with (fail)
            go_roundg (gk - 1)
            case measure => omega
            case rel => exact ⟨k + 1, by simp, by omega, ⟨_, _, _, _, HF.out.1⟩, HF.out.2⟩
          · have hk2' : ¬ (k : Int) < 2 := by omega
            go_wp2_with (fail)
            go_must (refine (HAl.out _).mono ?_)
            rintro e w7 ⟨rfl, hb7⟩
            have HA7 := Lib.hid ((HKp.out.below hb7).apart (by omega) (by omega))
            have HB7 := Lib.hid hb7
            clear hb7
            go_wp2_with (fail)
            go_must (refine HA7.out.mono ?_)
            rintro e w8 ⟨rfl, hb8⟩
            have HB8 : Hid (Below w.heap.size w w8) := HBw.out.trans (((HBr.out.trans (HB7.out.mono HBr.out.size)).trans hb8).mono HBw.out.size)
            clear hb8
            go_wp2_with (fail)
            go_ret
            exact ⟨rfl, HB8.out⟩

theorem call_cursPlays (A : Option Addr) (n c : Nat) (ops : List OpL) (A2 : Option Addr) (n2 c2 : Nat) (ops2 : List OpK) (lo hi : ByteArray) (most : Int) (w : World) (h : OpsAt w (.slice A n c) ops) (h2 : OpksAt w (.slice A2 n2 c2) ops2) (hlo : lo.size ≤ maxLen) (hhi : hi.size ≤ maxLen) :
    Calls Tryz.prog 4 #[.slice A n c, .slice A2 n2 c2, .string lo, .string hi, .int .i64 most] w (TrueB w) := by
  have e0 : ∀ x : ByteArray, x.size ≤ maxLen → x.data.toList.length ≤ 9223372036854775807 := fun x hx => by
    have e : x.data.toList.length = x.size := Array.length_toList
    unfold maxLen at hx
    omega
  have e2 : ∀ x : ByteArray, strV x.data.toList = .string x := fun x => by
    show Value.string ⟨x.data.toList.toArray⟩ = _
    rw [Array.toArray_toList]
  have := plays_walk alive12 A n c ops A2 n2 c2 ops2 lo.data.toList hi.data.toList most w h h2 (e0 lo hlo) (e0 hi hhi)
  rw [e2, e2] at this
  exact this
end Go.Ev
