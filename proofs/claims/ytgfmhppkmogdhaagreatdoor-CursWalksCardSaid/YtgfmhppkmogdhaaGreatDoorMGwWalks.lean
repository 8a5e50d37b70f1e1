/-
  The law arboretumlaw12.CursWalks, walked over the contracts of all that it calls.
-/
import Derived.Test.YtgfmhppkmogdhaaGreatDoorMEvInsert
import Derived.Test.YtgfmhppkmogdhaaGreatDoorMGwGetT
import Derived.Test.YtgfmhppkmogdhaaGreatDoorMGwWalks0
import Derived.Test.YtgfmhppkmogdhaaGreatDoorMGwSame
set_option linter.unusedVariables false
set_option linter.unusedSimpArgs false
set_option linter.unusedVariables false
set_option linter.unusedSimpArgs false
namespace Go.Ev
open Go.Proofs Go.RowKit

section
variable {p mst cnt : Nat} {c : Pc} {M : Store} {all : List Pair} {root : Int}

/-- A key of the tree, asked for. -/
theorem treeGet_at (root : Int) (i : Nat) (q : Pair) (w : World) (h : PgOk w p c mst M cnt) (ht : TreeOk M root all cnt) (hlen : all.length ≤ 511) (hr : Rising all) (hg : GoodP all) (hq : all[i]? = some q) :
    Calls Tryz.prog 25 #[ptrV p, .int .i64 root, strV q.1] w fun e w' => e = .returned (.tuple #[strV q.2, .int .i64 0]) ∧ Below w.heap.size w w' := by
  obtain ⟨g1, g2, g3⟩ := goodKV_of (hg q (List.mem_of_getElem? hq))
  obtain ⟨ha, hi⟩ := ahead_at hr hq
  refine (treeGet_ok root q.1 all w h ht hlen g1 g2).mono ?_
  rintro e w' ⟨⟨_, v, hv, rfl⟩ | ⟨hn, _⟩, hb⟩
  · rw [ha, hq] at hv
    obtain rfl : v = q.2 := (congrArg Prod.snd (Option.some.inj hv)).symm
    exact ⟨rfl, hb⟩
  · rw [hi] at hn
    cases hn
end

/-- What is known of the pairs all along. -/
structure Kn (all : List Pair) : Prop where
  rise : Rising all
  good : GoodP all
  few : all.length ≤ 511

theorem Kn.short {all : List Pair} (h : Kn all) : ∀ q ∈ all, q.1.length ≤ 100000 := fun q hq => by
  have := (goodKV_of (h.good q hq)).2.1
  omega

set_option maxHeartbeats 24000000 in
set_option maxRecDepth 100000 in
theorem walks_walk (hAl : ∀ W, Calls Tryz.prog 9 #[] W (TrueB W)) (A : Option Addr) (n c : Nat) (ops : List OpL) (key : Bytes) (w : World) (h : OpsAt w (.slice A n c) ops) (hkey : key.length ≤ 9223372036854775807) :
    Calls Tryz.prog 5 #[.slice A n c, strV key] w (TrueB w) := by
  obtain ⟨m, hm⟩ : ∃ m, key.length = m := ⟨_, rfl⟩
  obtain ⟨i0, hinf, q0, q1, q2⟩ := info_parts infoPair
  have HOps := Lib.hid h
  have HL := Lib.hid (light_any A n c ops w h)
  have HAl := Lib.hid hAl
  clear h hAl
  go_enter Tryz.func5, Tryz.ntmps5
  go_wp2_with (fail)
  go_must (refine HL.out.mono ?_)
  rintro e w1 ⟨bl, rfl, hlight, hb1⟩
  have HB1 := Lib.hid hb1
  have hok := HOps.out.below hb1
  cases bl with
  | false =>
    clear hlight hok hb1
    go_wp2_with (fail)
    go_must (refine (HAl.out _).mono ?_)
    rintro e w2 ⟨rfl, hb2⟩
    go_wp2_with (fail)
    go_ret
    exact ⟨rfl, HB1.out.trans (hb2.mono HB1.out.size)⟩
  | true =>
    obtain ⟨hl1, hl2⟩ := hlight rfl
    by_cases h300 : (300 : Int) < (m : Int)
    · clear hlight hok hb1
      go_wp2_with (fail)
      go_must (refine (HAl.out _).mono ?_)
      rintro e w2 ⟨rfl, hb2⟩
      go_wp2_with (fail)
      go_ret
      exact ⟨rfl, HB1.out.trans (hb2.mono HB1.out.size)⟩
    · have HG := Lib.hid (grown_any A n c ops w1 hok hl1)
      obtain ⟨all, hall⟩ : ∃ all, growP (kvs ops) [] = all := ⟨_, rfl⟩
      have hKn : Kn all := ⟨by rw [← hall]; exact growP_rising trivial, by rw [← hall]; exact growP_good (fun q hq => by cases hq), by
        have := growP_len (kvs ops) []
        rw [hall] at this
        simp only [kvs, List.length_map, List.length_nil] at this
        omega⟩
      have hlen := hKn.few
      have HKn := Lib.hid hKn
      have hkl : key.length ≤ 100000 := by omega
      have HKl := Lib.hid hkl
      unfold GrownP at HG
      rw [hall] at HG
      clear hlight hok hb1 hl2 hall hkl hKn
      go_wp2_with (fail)
      go_must (refine HG.out.mono ?_)
      rintro e w2 ⟨p, root, x, rfl, hGr, hb2⟩
      obtain ⟨pc, M, cnt, hpg, hT, hS, _⟩ := hGr.ex
      obtain ⟨X, cx, rfl, _⟩ := Sl.of_own hGr.own
      have HB2 := Lib.hid (HB1.out.trans (hb2.mono HB1.out.size))
      have HPg2 := Lib.hid hpg
      have HcB := Lib.hid hpg.lt
      clear hGr hb2 hpg hS
      go_wp2_with (fail)
      go_must (refine (new_is root _).mono ?_)
      rintro e w3 ⟨rfl, hw3⟩
      have hz3 : w3.heap.size = w2.heap.size + 1 := by rw [← hw3]; simp
      have hbc : Blk w3 w2.heap.size 99 (curCs p root) := by rw [← hw3]; exact Blk.new _ _ _
      have hb3 : Below w2.heap.size w2 w3 := by rw [← hw3]; exact (Below.refl _ _).alloc (Nat.le_refl _) _
      have HB3 := Lib.hid hb3
      have HZ3 := Lib.hid hz3
      have HBc := Lib.hid hbc
      clear hw3 hz3 hbc hb3
      go_wp2_with (fail)
      go_must (refine (new_is root _).mono ?_)
      rintro e w4 ⟨rfl, hw4⟩
      have hz4 : w4.heap.size = w3.heap.size + 1 := by rw [← hw4]; simp
      have hbd : Blk w4 w3.heap.size 99 (curCs p root) := by rw [← hw4]; exact Blk.new _ _ _
      have hb4 : Below w3.heap.size w3 w4 := by rw [← hw4]; exact (Below.refl _ _).alloc (Nat.le_refl _) _
      have HPg4 := Lib.hid ((HPg2.out.below HB3.out).below hb4)
      have HB4 := Lib.hid (HB2.out.trans ((HB3.out.trans (hb4.mono HB3.out.size)).mono HB2.out.size))
      have HBd := Lib.hid hbd
      have HBc4 := Lib.hid (HBc.out.below' hb4)
      have HZ4 := Lib.hid hz4
      generalize hbb : w2.heap.size = b at *
      generalize hdd : w3.heap.size = d at *
      have Hcb : Hid (∀ k, pc.S p k → k < b) := HcB.out
      have hst : CSt b (fun k => k = d ∨ (Value.slice none 0 0).ownBlock = some k) p b pc 3000 cnt M root all none w4 := CSt.new HPg4.out HBc4.out (Nat.le_refl _) (fun k hk => by
        rcases hk with rfl | hk
        · have := HZ3.out; have := HZ4.out; exact ⟨by omega, by omega⟩
        · cases hk) fun j hj => by have := Hcb.out j hj; omega
      have HW4 : Hid (WkI b (fun k => k = d) w4 p b pc 3000 cnt M root all none 0 [] (.slice none 0 0) w4) := ⟨hst, World.ownsRow_nil _ _ _ _, Keeps.refl _ _, hst.size⟩
      have HF := Lib.hid (first_st hT hlen hst)
      have HBB := Lib.hid hbb
      clear hw4 hz4 hbd hb4 hst hbb hdd
      go_wp2_with (fail)
      go_must (refine HF.out.mono ?_)
      intro e w5 h5
      obtain ⟨rfl, hW5⟩ := WkI.go HW4.out h5
      have e0 : (if all = [] then none else some 0 : Option Nat) = if 0 < all.length then some 0 else none := by
        cases all <;> simp
      rw [e0] at hW5 ⊢
      have e1 : (if 0 < all.length then some 0 else none : Option Nat).isSome = decide (0 < all.length) := by
        by_cases hh : 0 < all.length
        · simp [hh]
        · simp [hh]
      obtain ⟨b0, hb0⟩ : ∃ b0, decide (0 < all.length) = b0 := ⟨_, rfl⟩
      rw [e1, hb0]
      have HB0 := Lib.hid hb0
      clear hb0
      have HW5 := Lib.hid hW5
      clear hW5 h5 e0 e1
      go_wp2_with (fail)
      go_loopg [11, 13] (all.length + 1) (fun gk s11 s13 wr => ∃ i : Nat, s13 = .bool (decide (i < all.length)) ∧ i ≤ all.length ∧ all.length - i ≤ gk ∧ Hid (WkI b (fun k => k = d) w4 p b pc 3000 cnt M root all (if i < all.length then some i else none) i (all.take i) s11 wr))
      case atStart => exact ⟨0, by rw [HB0.out], by omega, by omega, HW5.out⟩
      case round =>
        clear HW5 HF
        obtain ⟨i, rfl, hile, hgk, hI⟩ := hrel
        have hown := hI.out.own
        obtain ⟨A1, cc, rfl, _⟩ := Sl.of_own hown
        have hi600 : (i : Int) < 600 := by omega
        by_cases hlt : i < all.length
        · rw [decide_eq_true hlt]
          obtain ⟨q, hq⟩ : ∃ q, all[i]? = some q := ⟨_, List.getElem?_eq_getElem hlt⟩
          have hII := hI.out
          rw [if_pos hlt] at hII
          have hP := pair_st hT hII.st
          simp only [pairAt, hq, Option.getD_some] at hP
          have HP := Lib.hid hP
          have HII := Lib.hid hII
          have HQ := Lib.hid hq
          have HOwn := Lib.hid hown
          clear hII hP hq hown
          obtain ⟨qk, qv⟩ := q
          go_wp2_with (fail)
          go_must (refine HP.out.mono ?_)
          rintro e w6 ⟨rfl, hb6⟩
          have HB6 := Lib.hid hb6
          clear hb6
          go_wp2_with (at_builtin; go_must (refine wpList_append_at rfl _ _ 26 rfl w4.heap.size 44 i0 _ 2 32 Tryz.underlying26 hinf q0 q1 q2 rfl (by decide) _ i (pairsCs (all.take i)) rfl (((own_below HOwn.out HB6.out).alloc _).alloc _) ⟨w6.heap.size + 1, 0, none⟩ 1 1 (pairsCs [(qk, qv)]) rfl rfl (row_pair _ (qk, qv) _ _ (by simp)) (pairsCs_one _) (by unfold maxLen; omega) (by omega) (by have := HB6.out.size; have := HII.out.kp.size; simp; omega) ?_))
          intro v7 w7 own7 hg7 hat7
          have hz6 := HB6.out.size
          have hW7 : WkI b (fun k => k = d) w4 p b pc 3000 cnt M root all (some i) (i + 1) (all.take (i + 1)) v7 w7 := HII.out.row Hcb.out (HB6.out.trans (((Below.refl _ w6).alloc (Nat.le_refl _) (.cells #[strV qk, strV qv] 44)).alloc (by simp) (.cells #[strV qk, strV qv] 44) |>.mono HB6.out.size)) hg7 (fun k hk => .inl hk) (fun k hk => by
            rcases hat7 k hk with e | e
            · exact .inl e
            · refine .inr ?_
              try simp at e
              omega) (by
            rw [← pairsCs_app] at own7
            have e : all.take i ++ [(qk, qv)] = all.take (i + 1) := by
              have e1 := HQ.out
              rw [List.getElem?_eq_getElem hlt, Option.some.injEq] at e1
              rw [List.take_succ_eq_append_getElem hlt, e1]
            rw [e] at own7
            exact own7)
          have HW7 := Lib.hid hW7
          have HNx := Lib.hid (next_st hT hlen hW7.st)
          obtain ⟨A7, c7, rfl, _⟩ := Sl.of_own own7
          clear hW7 own7 hg7 hat7 hz6
          go_wp2_with (fail)
          go_must (refine HNx.out.mono ?_)
          intro e w8 h8
          obtain ⟨rfl, hW8⟩ := WkI.go HW7.out h8
          have e1 : (if i + 1 < all.length then some (i + 1) else none : Option Nat).isSome = decide (i + 1 < all.length) := by
            by_cases hh : i + 1 < all.length
            · simp [hh]
            · simp [hh]
          rw [e1]
          have HW8 := Lib.hid hW8
          clear h8 hW8 e1
          go_wp2_with (fail)
          go_roundg (all.length - (i + 1))
          case measure => omega
          case rel => exact ⟨i + 1, rfl, by omega, Nat.le_refl _, HW8.out⟩
        · rw [decide_eq_false hlt]
          have hii : i = all.length := by omega
          subst hii
          have hII := hI.out
          rw [if_neg hlt, List.take_length] at hII
          have HII := Lib.hid hII
          clear hI hII hown hlt hile hgk
          go_wp2_with (fail)
          -- backwards, by the second cursor
          obtain ⟨wo, hwo⟩ : ∃ x, x = wr := ⟨_, rfl⟩
          subst hwo
          have hdl : d < w4.heap.size := by have := HZ4.out; omega
          have hbd : b < d := by have := HZ3.out; omega
          have hbd5 : Blk wo d 99 (curCs p root) := HBd.out.keeps HII.out.kp fun e => e.2 rfl
          have hzr := HII.out.kp.size
          have hst : CSt d (fun k => (k < wo.heap.size ∧ k ≠ d) ∨ (Value.slice none 0 0).ownBlock = some k) p d pc 3000 cnt M root all none wo := CSt.new HII.out.st.pg hbd5 (Nat.le_refl _) (fun k hk => by
            rcases hk with hk | hk
            · exact hk
            · cases hk) fun j hj => by have := Hcb.out j hj; omega
          have Hcd : Hid (∀ k, pc.S p k → k < d) := fun k hk => by have := Hcb.out k hk; omega
          have HW5 : Hid (WkI d (fun k => k < wo.heap.size ∧ k ≠ d) wo p d pc 3000 cnt M root all none 0 [] (.slice none 0 0) wo) := ⟨hst, World.ownsRow_nil _ _ _ _, Keeps.refl _ _, hst.size⟩
          have HLa := Lib.hid (last_st hT hlen hst)
          have HBd5 := Lib.hid hbd5
          have HDl := Lib.hid hdl
          have HBD := Lib.hid hbd
          have HZR := Lib.hid hzr
          clear hst hbd5 hdl hbd hzr
          go_must (refine HLa.out.mono ?_)
          intro e w6 h6
          obtain ⟨rfl, hW6⟩ := WkI.go HW5.out h6
          have e0 : (if all = [] then none else some (all.length - 1) : Option Nat) = if 0 < all.length then some (all.length - 1) else none := by
            cases all <;> simp
          rw [e0] at hW6 ⊢
          have e1 : (if 0 < all.length then some (all.length - 1) else none : Option Nat).isSome = decide (0 < all.length) := by
            by_cases hh : 0 < all.length
            · simp [hh]
            · simp [hh]
          rw [e1, HB0.out]
          have HW6 := Lib.hid hW6
          clear hW6 h6 e0 e1 HW5 HLa
          go_wp2_with (fail)
          go_loopg [12, 16] (all.length + 1) (fun gk s12 s16 wr2 => ∃ j : Nat, s16 = .bool (decide (0 < j)) ∧ j ≤ all.length ∧ j ≤ gk ∧ Hid (WkI d (fun k => k < wo.heap.size ∧ k ≠ d) wo p d pc 3000 cnt M root all (if 0 < j then some (j - 1) else none) (all.length - j) (all.drop j) s12 wr2))
          case atStart => exact ⟨all.length, by rw [HB0.out], Nat.le_refl _, by omega, by rw [Nat.sub_self, List.drop_length]; exact HW6.out⟩
          case round =>
            clear HW6
            obtain ⟨wr2, hwo⟩ : ∃ x, x = wr := ⟨_, rfl⟩
            subst hwo
            obtain ⟨j, rfl, hjl, hgk, hJ⟩ := hrel
            have hown := hJ.out.own
            obtain ⟨A2, cc2, rfl, hA2, _⟩ := own_nilcap hown
            obtain ⟨nj, hnj⟩ : ∃ k, all.length - j = k := ⟨_, rfl⟩
            rw [hnj] at hown hJ ⊢
            have HNj := Lib.hid hnj
            have hj600 : (nj : Int) < 600 := by omega
            have hnj1 : nj ≤ 511 := by omega
            have HA2 := Lib.hid hA2
            clear hnj hA2
            by_cases hlt : 0 < j
            · rw [decide_eq_true hlt]
              obtain ⟨q, hq⟩ : ∃ q, all[j - 1]? = some q := ⟨_, List.getElem?_eq_getElem (by omega)⟩
              have hJJ := hJ.out
              rw [if_pos hlt] at hJJ
              have hP := pair_st hT hJJ.st
              simp only [pairAt, hq, Option.getD_some] at hP
              have HP := Lib.hid hP
              have HJJ := Lib.hid hJJ
              have HQ := Lib.hid hq
              have HOwn := Lib.hid hown
              clear hJJ hP hq hown hJ
              obtain ⟨qk, qv⟩ := q
              go_wp2_with (fail)
              go_must (refine HP.out.mono ?_)
              rintro e w6 ⟨rfl, hb6⟩
              have HB6 := Lib.hid hb6
              clear hb6
              have hb7 : Below wr2.heap.size wr2 ((w6.alloc (.cells #[strV qk, strV qv] 44)).alloc (.cells #[strV qk, strV qv] 44)) := HB6.out.trans (((Below.refl _ w6).alloc (Nat.le_refl _) (.cells #[strV qk, strV qv] 44)).alloc (by simp) (.cells #[strV qk, strV qv] 44) |>.mono HB6.out.size)
              have HB7 := Lib.hid hb7
              have HSl := Lib.hid ((Sl.of_own HOwn.out).below hb7)
              have hof := own_fresh (w6.alloc (.cells #[strV qk, strV qv] 44)) (qk, qv)
              simp only [World.size_alloc] at hof
              have HOf := Lib.hid hof
              clear hb7 hof
              go_wp2_with (at_builtin; go_must (refine wpList_append_sl rfl _ _ 26 rfl (w6.heap.size + 1) 44 i0 _ 2 32 Tryz.underlying26 hinf q0 q1 q2 rfl (by decide) _ 1 (pairsCs [(qk, qv)]) rfl HOf.out A2 nj cc2 (pairsCs (all.drop j)) rfl HSl.out HA2.out (pairsCs_one _) (by unfold maxLen; omega) (by omega) (by simp) ?_))
              intro v7 w7 own7 hg7
              have hz6 := HB6.out.size
              have hzz : wo.heap.size ≤ wr2.heap.size := HJJ.out.kp.size
              have hW7 : WkI d (fun k => k < wo.heap.size ∧ k ≠ d) wo p d pc 3000 cnt M root all (some (j - 1)) (1 + nj) (all.drop (j - 1)) v7 w7 := HJJ.out.row Hcd.out HB7.out hg7 (fun k hk => .inr (by
                simp only [Value.ownBlock, Option.some.injEq] at hk
                subst hk
                try simp
                omega)) (fun k hk => .inr (by
                have := (own7.lt k hk).1
                omega)) (by
                rw [← pairsCs_app] at own7
                have e : [(qk, qv)] ++ all.drop j = all.drop (j - 1) := by
                  have e1 := HQ.out
                  rw [List.getElem?_eq_getElem (by omega), Option.some.injEq] at e1
                  rw [List.drop_eq_getElem_cons (by omega : j - 1 < all.length), e1, show j - 1 + 1 = j by omega]
                  rfl
                rw [e] at own7
                exact own_base own7 (by omega))
              have hnn : 1 + nj = all.length - (j - 1) := by have := HNj.out; omega
              have HW7 := Lib.hid hW7
              have HNx := Lib.hid (prev_st hT hlen hW7.st)
              obtain ⟨A7, c7, rfl, _⟩ := Sl.of_own own7
              clear hW7 own7 hg7 hz6 hzz
              have HNN := Lib.hid hnn
              clear hnn
              go_wp2_with (fail)
              go_must (refine HNx.out.mono ?_)
              intro e w8 h8
              obtain ⟨rfl, hW8⟩ := WkI.go HW7.out h8
              have e1 : (if 0 < j - 1 then some (j - 1 - 1) else none : Option Nat).isSome = decide (0 < j - 1) := by
                by_cases hh : 0 < j - 1
                · simp [hh]
                · simp [hh]
              rw [e1]
              rw [HNN.out] at hW8
              have HW8 := Lib.hid hW8
              clear h8 hW8 e1
              go_wp2_with (fail)
              go_roundg (j - 1)
              case measure => omega
              case rel => exact ⟨j - 1, rfl, by omega, Nat.le_refl _, by have h := HW8.out; rw [← HNN.out] at h ⊢; exact h⟩
            · rw [decide_eq_false hlt]
              have hj0 : j = 0 := by omega
              subst hj0
              have hnj : nj = all.length := by have := HNj.out; omega
              subst hnj
              have hJJ := hJ.out
              rw [if_neg hlt, List.drop_zero] at hJJ
              -- the first cursor is where it was, its row too
              have hcst := HII.out.st.beside hJJ.kp (fun k hk hl => by
                have hkd : k = d := by
                  by_cases hkd : k = d
                  · exact hkd
                  · exact absurd ⟨hl, hkd⟩ hk.2
                subst hkd
                have hb := HBd5.out
                unfold Blk at hb
                exact ⟨.inl rfl, Nat.le_of_lt HBD.out, _, _, hb⟩) Hcb.out
              have howna := own_keeps HII.out.own hJJ.kp (fun k hk hf => by
                have hl := (HII.out.own.lt k hk)
                have := HDl.out
                exact hf.2 ⟨hl.2, by omega⟩)
              have HCst := Lib.hid hcst
              have HSa := Lib.hid (Sl.of_own howna)
              have HSb := Lib.hid (Sl.of_own hJJ.own)
              have hkp6 := (HII.out.kp.trans (S' := Frm d fun k => k < wo.heap.size ∧ k ≠ d) hJJ.kp)
              have hbl : Below b w4 wr2 := (HII.out.kp.below (B := b) HII.out.le fun i hi e => by have := e.1; omega).trans (hJJ.kp.below (B := b) (by have := HDl.out; have := HZR.out; have := HBD.out; omega) fun i hi e => by have := e.1; have := HBD.out; omega)
              have HBl := Lib.hid (HB4.out.trans (hbl.mono (by have := HB2.out.size; have := HBB.out; omega)))
              have HRa := Lib.hid (range_any root [] [] 0 all wr2 hcst.pg hT hlen)
              rw [rangeP_all] at HRa
              clear hcst howna hkp6 hbl hJJ hJ hown
              go_wp2_with (fail)
              go_must (refine HRa.out.mono ?_)
              rintro e w7 ⟨v7, rfl, hcl7, hb7⟩
              obtain ⟨A7, rfl, hA7, hS7⟩ := hcl7.sl
              have HSm1 := Lib.hid (samePairs_any A1 A2 all.length all.length cc cc2 all all w7 (HSa.out.below hb7) (HSb.out.below hb7) (by omega) (by omega))
              rw [decide_eq_true rfl] at HSm1
              have HS7 := Lib.hid hS7
              have HSa7 := Lib.hid (HSa.out.below hb7)
              have HB7 := Lib.hid (HBl.out.trans (hb7.mono HBl.out.size))
              have HCst7 := Lib.hid (HCst.out.below hb7)
              clear hcl7 hS7 hb7 hA7
              go_wp2_with (fail)
              go_must (refine HSm1.out.mono ?_)
              rintro e w8 ⟨rfl, hb8⟩
              have HSm2 := Lib.hid (samePairs_any A1 A7 all.length all.length cc all.length all all w8 (HSa7.out.below hb8) (HS7.out.below hb8) (by omega) (by omega))
              rw [decide_eq_true rfl] at HSm2
              have HSa8 := Lib.hid (HSa7.out.below hb8)
              have HB8 := Lib.hid (HB7.out.trans (hb8.mono HB7.out.size))
              have HCst8 := Lib.hid (HCst7.out.below hb8)
              clear hb8
              go_wp2_with (fail)
              go_must (refine HSm2.out.mono ?_)
              rintro e w9 ⟨rfl, hb9⟩
              have HSa9 := Lib.hid (HSa8.out.below hb9)
              have HB9 := Lib.hid (HB8.out.trans (hb9.mono HB8.out.size))
              have HCst9 := Lib.hid (HCst8.out.below hb9)
              clear hb9
              go_wp2_with (fail)
              go_loopg [21] all.length (fun gk s21 wr3 => ∃ i : Nat, s21 = .int .i64 (i : Int) ∧ i + gk = all.length ∧ Hid (Below w9.heap.size w9 wr3))
              case atStart => exact ⟨0, rfl, by omega, Below.refl _ _⟩
              case round =>
                obtain ⟨wr3, hwo⟩ : ∃ x, x = wr := ⟨_, rfl⟩
                subst hwo
                obtain ⟨i, rfl, hi, hbw⟩ := hrel
                by_cases h1 : i < all.length
                · have h1' : (i : Int) < (all.length : Int) := by omega
                  have hi0 : (0 : Int) ≤ (i : Int) := by omega
                  have hw1 : IntKind.i64.wrap ((i : Int) + 1) = (i : Int) + 1 := IntWalk.i64_in _ (by omega)
                  obtain ⟨_, _, e0, _, _, hcl⟩ := HSa9.out.below hbw.out
                  cases e0
                  obtain ⟨ba, oa, rfl, _, hca⟩ := hcl (by omega)
                  obtain ⟨p1, p2⟩ := pairsCs_at all i h1
                  have x1 : wr3.cell? ⟨ba, oa + i * 2, none⟩ = _ := hca _ _ p1
                  obtain ⟨q, hq⟩ : ∃ q, all[i] = q := ⟨_, rfl⟩
                  have hq2 : all[i]? = some q := by rw [List.getElem?_eq_getElem h1, hq]
                  rw [hq] at x1 p1 p2
                  have HG := Lib.hid (treeGet_at root i q wr3 (HCst9.out.below hbw.out).pg hT hlen HKn.out.rise HKn.out.good hq2)
                  have HQ2 := Lib.hid hq2
                  have HP := Lib.hid (And.intro p1 p2)
                  obtain ⟨qk, qv⟩ := q
                  clear hca hcl p1 p2 hq hq2
                  simp only at x1 HG
                  go_wp2_with (fail)
                  go_must (refine HG.out.mono ?_)
                  rintro e w10 ⟨rfl, hb10⟩
                  have hbw10 := hbw.out.trans (hb10.mono hbw.out.size)
                  have HBw10 := Lib.hid hbw10
                  obtain ⟨_, _, e0, _, _, hcl⟩ := HSa9.out.below hbw10
                  cases e0
                  obtain ⟨ba', oa', e1, _, hca⟩ := hcl (by omega)
                  cases e1
                  obtain ⟨p1, p2⟩ := HP.out
                  have y1 : w10.cell? ⟨ba, oa + i * 2, none⟩ = _ := hca _ _ p1
                  have y2 : w10.cell? ⟨ba, oa + i * 2 + 1, none⟩ = _ := hca _ _ p2
                  clear p1 p2 x1 hb10 hbw10 hcl
                  by_cases hi1 : i = 0
                  · subst hi1
                    clear hca
                    go_wp2_with (fail)
                    refine wp_region_any (by kernel_rfl) ?_
                    change wpAny _ _ _ _ _ _ _ (World.drew _)
                    try simp only [Act.put, lT, l0, lS]
                    refine tk 0 (v := ?_) rfl (by kernel_rfl) (fun _ _ _ h => h) (by rfl) ?hy ?_
                    case hy => intro w; go_simp; try with_reducible rfl
                    try simp only [Act.put, lT, l0, lS]
                    refine tk 1 (v := ?_) rfl (by kernel_rfl) (fun _ _ _ h => h) (by rfl) ?hy ?_
                    case hy => intro w; go_simp; try with_reducible rfl
                    try simp only [Act.put, lT, l0, lS]
                    refine tk 2 (v := ?_) rfl (by kernel_rfl) (fun _ _ _ h => h) (by rfl) ?hy ?_
                    case hy => intro w; go_simp; try with_reducible rfl
                    try simp only [Act.put, lT, l0, lS]
                    refine tk 3 (v := ?_) rfl (by kernel_rfl) (fun _ _ _ h => h) (by rfl) ?hy ?_
                    case hy => intro w; go_simp; try with_reducible rfl
                    try simp only [Act.put, lT, l0, lS]
                    refine tk 4 (v := ?_) rfl (by kernel_rfl) (fun _ _ _ h => h) (by rfl) ?hy ?_
                    case hy => intro w; go_simp; try with_reducible rfl
                    try simp only [Act.put, lT, l0, lS]
                    refine tk 5 (v := ?_) rfl (by kernel_rfl) (fun _ _ _ h => h) (by rfl) ?hy ?_
                    case hy => intro w; go_simp; try with_reducible rfl
                    try simp only [Act.put, lT, l0, lS]
                    refine tk 6 (v := ?_) rfl (by kernel_rfl) (fun _ _ _ h => h) (by rfl) ?hy ?_
                    case hy => intro w; go_simp; try with_reducible rfl
                    try simp only [Act.put, lT, l0, lS]
                    refine tk 7 (v := ?_) rfl (by kernel_rfl) (fun _ _ _ h => h) (by rfl) ?hy ?_
                    case hy => intro w; go_simp; try with_reducible rfl
                    try simp only [Act.put, lT, l0, lS]
                    try simp only [Act.put, lT, l0, lS]
                    refine tkR 8 (v := ?_) rfl (by kernel_rfl) (fun _ _ _ h => h) (by rfl) ?hy ?_
                    case hy => intro w hE; have q0 := hE.cell y1; have q1 := hE.cell y2; go_simp; try with_reducible rfl
                    try simp only [Act.put, lT, l0, lS]
                    try simp only [Act.put, lT, l0, lS]
                    refine tk 9 (v := ?_) rfl (by kernel_rfl) (fun _ _ _ h => h) (by rfl) ?hy ?_
                    case hy => intro w; go_simp; try with_reducible rfl
                    try simp only [Act.put, lT, l0, lS]
                    refine tk 10 (v := ?_) rfl (by kernel_rfl) (fun _ _ _ h => h) (by rfl) ?hy ?_
                    case hy => intro w; go_simp; try with_reducible rfl
                    try simp only [Act.put, lT, l0, lS]
                    refine tk 11 (v := ?_) rfl (by kernel_rfl) (fun _ _ _ h => h) (by rfl) ?hy ?_
                    case hy => intro w; go_simp; try with_reducible rfl
                    try simp only [Act.put, lT, l0, lS]
                    refine tk 12 (v := ?_) rfl (by kernel_rfl) (fun _ _ _ h => h) (by rfl) ?hy ?_
                    case hy => intro w; go_simp; try with_reducible rfl
                    try simp only [Act.put, lT, l0, lS]
                    refine tk 13 (v := ?_) rfl (by kernel_rfl) (fun _ _ _ h => h) (by rfl) ?hy ?_
                    case hy => intro w; go_simp; try with_reducible rfl
                    try simp only [Act.put, lT, l0, lS]
                    refine tk 14 (v := ?_) rfl (by kernel_rfl) (fun _ _ _ h => h) (by rfl) ?hy ?_
                    case hy => intro w; go_simp; try with_reducible rfl
                    try simp only [Act.put, lT, l0, lS]
                    try simp only [Act.put, lT, l0, lS]
                    refine sk 15 rfl (by kernel_rfl) (fun _ _ _ h => h) (by rfl) ?_
                    try simp only [Act.put, lT, l0, lS]
                    refine sk 16 rfl (by kernel_rfl) (fun _ _ _ h => h) (by rfl) ?_
                    try simp only [Act.put, lT, l0, lS]
                    refine sk 17 rfl (by kernel_rfl) (fun _ _ _ h => h) (by rfl) ?_
                    try simp only [Act.put, lT, l0, lS]
                    refine sk 18 rfl (by kernel_rfl) (fun _ _ _ h => h) (by rfl) ?_
                    try simp only [Act.put, lT, l0, lS]
                    refine sk 19 rfl (by kernel_rfl) (fun _ _ _ h => h) (by rfl) ?_
                    try simp only [Act.put, lT, l0, lS]
                    refine sk 20 rfl (by kernel_rfl) (fun _ _ _ h => h) (by rfl) ?_
                    try simp only [Act.put, lT, l0, lS]
                    refine sk 21 rfl (by kernel_rfl) (fun _ _ _ h => h) (by rfl) ?_
                    try simp only [Act.put, lT, l0, lS]
                    refine sk 22 rfl (by kernel_rfl) (fun _ _ _ h => h) (by rfl) ?_
                    try simp only [Act.put, lT, l0, lS]
                    refine sk 23 rfl (by kernel_rfl) (fun _ _ _ h => h) (by rfl) ?_
                    try simp only [Act.put, lT, l0, lS]
                    refine sk 24 rfl (by kernel_rfl) (fun _ _ _ h => h) (by rfl) ?_
                    try simp only [Act.put, lT, l0, lS]
                    refine sk 25 rfl (by kernel_rfl) (fun _ _ _ h => h) (by rfl) ?_
                    try simp only [Act.put, lT, l0, lS]
                    refine sk 26 rfl (by kernel_rfl) (fun _ _ _ h => h) (by rfl) ?_
                    try simp only [Act.put, lT, l0, lS]
                    refine sk 27 rfl (by kernel_rfl) (fun _ _ _ h => h) (by rfl) ?_
                    try simp only [Act.put, lT, l0, lS]
                    try simp only [Act.put, lT, l0, lS]
                    refine tk 28 (v := ?_) rfl (by kernel_rfl) (fun _ _ _ h => h) (by rfl) ?hy ?_
                    case hy => intro w; go_simp; try with_reducible rfl
                    try simp only [Act.put, lT, l0, lS]
                    refine tk 29 (v := ?_) rfl (by kernel_rfl) (fun _ _ _ h => h) (by rfl) ?hy ?_
                    case hy => intro w; go_simp; try with_reducible rfl
                    try simp only [Act.put, lT, l0, lS]
                    refine wpAny_done (by kernel_rfl) ?_ _
                    go_wp2_with (fail)
                    go_roundg (all.length - 1)
                    case measure => omega
                    case rel => exact ⟨1, rfl, by omega, HBw10.out.drew⟩
                  · obtain ⟨j, hj⟩ : ∃ j, i = j + 1 := ⟨i - 1, by omega⟩
                    have hjl : j < all.length := by omega
                    obtain ⟨u, hu⟩ : ∃ u, all[j] = u := ⟨_, rfl⟩
                    have hu2 : all[j]? = some u := by rw [List.getElem?_eq_getElem hjl, hu]
                    obtain ⟨p3, _⟩ := pairsCs_at all j hjl
                    rw [hu] at p3
                    have y3 : w10.cell? ⟨ba, oa + j * 2, none⟩ = _ := hca _ _ p3
                    have hls : lessB u.1 qk = true := less_next HKn.out.rise hu2 (by rw [← hj]; exact HQ2.out)
                    have hk1 : u.1.length ≤ 100000 := HKn.out.short _ (List.mem_of_getElem? hu2)
                    have hk2 : qk.length ≤ 100000 := HKn.out.short _ (List.mem_of_getElem? HQ2.out)
                    have HLs : Hid (∀ W, Calls Tryz.prog 26 #[strV u.1, strV qk] W fun e w' => e = .returned (.bool true) ∧ Below W.heap.size W w') := fun W => by
                      have := less_any u.1 qk W hk1 hk2
                      rw [hls] at this
                      exact this
                    obtain ⟨uk, uv⟩ := u
                    simp only at y3 HLs
                    have hwj : IntKind.i64.wrap ((i : Int) - 1) = (j : Int) := by rw [IntWalk.i64_in _ (by omega)]; omega
                    have hj0 : (0 : Int) ≤ (j : Int) := by omega
                    have hj1 : (j : Int) < (all.length : Int) := by omega
                    have hi2 : (0 : Int) < (i : Int) := by omega
                    have hi3 : 0 < i := by omega
                    clear hca hu hu2 p3 hls hk1 hk2 hj
                    go_wp2_with (fail)
                    refine wp_region_any (by kernel_rfl) ?_
                    change wpAny _ _ _ _ _ _ _ (World.drew _)
                    try simp only [Act.put, lT, l0, lS]
                    refine tk 0 (v := ?_) rfl (by kernel_rfl) (fun _ _ _ h => h) (by rfl) ?hy ?_
                    case hy => intro w; go_simp; try with_reducible rfl
                    try simp only [Act.put, lT, l0, lS]
                    refine tk 1 (v := ?_) rfl (by kernel_rfl) (fun _ _ _ h => h) (by rfl) ?hy ?_
                    case hy => intro w; go_simp; try with_reducible rfl
                    try simp only [Act.put, lT, l0, lS]
                    refine tk 2 (v := ?_) rfl (by kernel_rfl) (fun _ _ _ h => h) (by rfl) ?hy ?_
                    case hy => intro w; go_simp; try with_reducible rfl
                    try simp only [Act.put, lT, l0, lS]
                    refine tk 3 (v := ?_) rfl (by kernel_rfl) (fun _ _ _ h => h) (by rfl) ?hy ?_
                    case hy => intro w; go_simp; try with_reducible rfl
                    try simp only [Act.put, lT, l0, lS]
                    refine tk 4 (v := ?_) rfl (by kernel_rfl) (fun _ _ _ h => h) (by rfl) ?hy ?_
                    case hy => intro w; go_simp; try with_reducible rfl
                    try simp only [Act.put, lT, l0, lS]
                    refine tk 5 (v := ?_) rfl (by kernel_rfl) (fun _ _ _ h => h) (by rfl) ?hy ?_
                    case hy => intro w; go_simp; try with_reducible rfl
                    try simp only [Act.put, lT, l0, lS]
                    refine tk 6 (v := ?_) rfl (by kernel_rfl) (fun _ _ _ h => h) (by rfl) ?hy ?_
                    case hy => intro w; go_simp; try with_reducible rfl
                    try simp only [Act.put, lT, l0, lS]
                    refine tk 7 (v := ?_) rfl (by kernel_rfl) (fun _ _ _ h => h) (by rfl) ?hy ?_
                    case hy => intro w; go_simp; try with_reducible rfl
                    try simp only [Act.put, lT, l0, lS]
                    try simp only [Act.put, lT, l0, lS]
                    refine tkR 8 (v := ?_) rfl (by kernel_rfl) (fun _ _ _ h => h) (by rfl) ?hy ?_
                    case hy => intro w hE; have q0 := hE.cell y1; have q1 := hE.cell y2; go_simp; try with_reducible rfl
                    try simp only [Act.put, lT, l0, lS]
                    try simp only [Act.put, lT, l0, lS]
                    refine tk 9 (v := ?_) rfl (by kernel_rfl) (fun _ _ _ h => h) (by rfl) ?hy ?_
                    case hy => intro w; go_simp; try with_reducible rfl
                    try simp only [Act.put, lT, l0, lS]
                    refine tk 10 (v := ?_) rfl (by kernel_rfl) (fun _ _ _ h => h) (by rfl) ?hy ?_
                    case hy => intro w; go_simp; try with_reducible rfl
                    try simp only [Act.put, lT, l0, lS]
                    refine tk 11 (v := ?_) rfl (by kernel_rfl) (fun _ _ _ h => h) (by rfl) ?hy ?_
                    case hy => intro w; go_simp; try with_reducible rfl
                    try simp only [Act.put, lT, l0, lS]
                    refine tk 12 (v := ?_) rfl (by kernel_rfl) (fun _ _ _ h => h) (by rfl) ?hy ?_
                    case hy => intro w; go_simp; try with_reducible rfl
                    try simp only [Act.put, lT, l0, lS]
                    refine tk 13 (v := ?_) rfl (by kernel_rfl) (fun _ _ _ h => h) (by rfl) ?hy ?_
                    case hy => intro w; go_simp; try with_reducible rfl
                    try simp only [Act.put, lT, l0, lS]
                    refine tk 14 (v := ?_) rfl (by kernel_rfl) (fun _ _ _ h => h) (by rfl) ?hy ?_
                    case hy => intro w; go_simp; try with_reducible rfl
                    try simp only [Act.put, lT, l0, lS]
                    refine tk 15 (v := ?_) rfl (by kernel_rfl) (fun _ _ _ h => h) (by rfl) ?hy ?_
                    case hy => intro w; go_simp; try with_reducible rfl
                    try simp only [Act.put, lT, l0, lS]
                    refine tk 16 (v := ?_) rfl (by kernel_rfl) (fun _ _ _ h => h) (by rfl) ?hy ?_
                    case hy => intro w; go_simp; try with_reducible rfl
                    try simp only [Act.put, lT, l0, lS]
                    refine tk 17 (v := ?_) rfl (by kernel_rfl) (fun _ _ _ h => h) (by rfl) ?hy ?_
                    case hy => intro w; go_simp; try with_reducible rfl
                    try simp only [Act.put, lT, l0, lS]
                    refine tk 18 (v := ?_) rfl (by kernel_rfl) (fun _ _ _ h => h) (by rfl) ?hy ?_
                    case hy => intro w; go_simp; try with_reducible rfl
                    try simp only [Act.put, lT, l0, lS]
                    refine tk 19 (v := ?_) rfl (by kernel_rfl) (fun _ _ _ h => h) (by rfl) ?hy ?_
                    case hy => intro w; go_simp; try with_reducible rfl
                    try simp only [Act.put, lT, l0, lS]
                    refine tk 21 (v := ?_) rfl (by kernel_rfl) (fun _ _ _ h => h) (by rfl) ?hy ?_
                    case hy => intro w; go_simp; try with_reducible rfl
                    try simp only [Act.put, lT, l0, lS]
                    refine tk 22 (v := ?_) rfl (by kernel_rfl) (fun _ _ _ h => h) (by rfl) ?hy ?_
                    case hy => intro w; go_simp; try with_reducible rfl
                    try simp only [Act.put, lT, l0, lS]
                    refine tk 23 (v := ?_) rfl (by kernel_rfl) (fun _ _ _ h => h) (by rfl) ?hy ?_
                    case hy => intro w; go_simp; try with_reducible rfl
                    try simp only [Act.put, lT, l0, lS]
                    refine tk 24 (v := ?_) rfl (by kernel_rfl) (fun _ _ _ h => h) (by rfl) ?hy ?_
                    case hy => intro w; go_simp; try with_reducible rfl
                    try simp only [Act.put, lT, l0, lS]
                    try simp only [Act.put, lT, l0, lS]
                    refine tkR 20 (v := ?_) rfl (by kernel_rfl) (fun _ _ _ h => h) (by rfl) ?hy ?_
                    case hy => intro w hE; have q0 := hE.cell y3; go_simp; try with_reducible rfl
                    try simp only [Act.put, lT, l0, lS]
                    try simp only [Act.put, lT, l0, lS]
                    refine tkR 25 (v := ?_) rfl (by kernel_rfl) (fun _ _ _ h => h) (by rfl) ?hy ?_
                    case hy => intro w hE; have q0 := hE.cell y1; go_simp; try with_reducible rfl
                    try simp only [Act.put, lT, l0, lS]
                    refine rd 26 (by kernel_rfl) rfl (fun K hK => ?_)
                    go_simp
                    (go_at_call 26; go_must (refine (HLs.out _).mono ?_); rintro e w11 ⟨rfl, hb11⟩)
                    go_simp
                    refine hK _ _ ?_
                    clear hK K
                    try simp only [Act.put, lT, l0, lS]
                    refine tk 27 (v := ?_) rfl (by kernel_rfl) (fun _ _ _ h => h) (by rfl) ?hy ?_
                    case hy => intro w; go_simp; try with_reducible rfl
                    try simp only [Act.put, lT, l0, lS]
                    refine tk 28 (v := ?_) rfl (by kernel_rfl) (fun _ _ _ h => h) (by rfl) ?hy ?_
                    case hy => intro w; go_simp; try with_reducible rfl
                    try simp only [Act.put, lT, l0, lS]
                    refine tk 29 (v := ?_) rfl (by kernel_rfl) (fun _ _ _ h => h) (by rfl) ?hy ?_
                    case hy => intro w; go_simp; try with_reducible rfl
                    try simp only [Act.put, lT, l0, lS]
                    refine wpAny_done (by kernel_rfl) ?_ _
                    go_wp2_with (fail)
                    go_roundg (all.length - (i + 1))
                    case measure => omega
                    case rel => exact ⟨i + 1, by simp, by omega, HBw10.out.drew.trans (hb11.mono (by have := HBw10.out.size; simpa using this))⟩
                · have h1' : ¬ (i : Int) < (all.length : Int) := by omega
                  have hstw := HCst9.out.below hbw.out
                  have HBw := Lib.hid (HB9.out.trans (hbw.out.mono HB9.out.size))
                  obtain ⟨a0, ha0⟩ : ∃ a0, aheadP key all = a0 := ⟨_, rfl⟩
                  have HSk := Lib.hid (seek_st key hT hlen hstw)
                  have ha1 : a0 ≤ all.length := by rw [← ha0]; exact aheadP_le key all
                  rw [ha0] at HSk
                  have HA0 := Lib.hid ha0
                  have hzs := hstw.size
                  have HZs := Lib.hid hzs
                  clear hstw ha0 hzs
                  go_wp2_with (fail)
                  go_must (refine HSk.out.mono ?_)
                  rintro e w10 ⟨rfl, hst10, hk10⟩
                  have hbl10 : Below b wr3 w10 := hk10.below HZs.out fun k hk e => by have := e.1; omega
                  have HSt10 := Lib.hid hst10
                  have HBl10 := Lib.hid (HBw.out.trans (hbl10.mono (by have := HB2.out.size; have := HBB.out; omega)))
                  have e1 : (if a0 < all.length then some a0 else none : Option Nat).isSome = decide (a0 < all.length) := by
                    by_cases hh : a0 < all.length
                    · simp [hh]
                    · simp [hh]
                  rw [e1]
                  clear hst10 hk10 hbl10 e1 HSk
                  go_wp2_with (fail)
                  go_loopg [24, 25] (all.length + 1) (fun gk s24 s25 wr4 => ∃ j k : Nat, s25 = .bool (decide (j < all.length)) ∧ s24 = .int .i64 (k : Int) ∧ a0 + k = j ∧ j ≤ all.length ∧ all.length - j ≤ gk ∧ Hid (CSt b (fun k => k = d ∨ (Value.slice A1 all.length cc).ownBlock = some k) p b pc 3000 cnt M root all (if j < all.length then some j else none) wr4) ∧ Hid (Below w.heap.size w wr4))
                  case atStart => exact ⟨a0, 0, rfl, rfl, by omega, ha1, by omega, HSt10.out, HBl10.out⟩
                  case round =>
                    obtain ⟨wr4, hwo⟩ : ∃ x, x = wr := ⟨_, rfl⟩
                    subst hwo
                    obtain ⟨j, k, rfl, rfl, hjk, hjl, hgk, hst, hbl⟩ := hrel
                    have hk600 : (k : Int) < 600 := by omega
                    by_cases hlt : j < all.length
                    · rw [decide_eq_true hlt]
                      obtain ⟨q, hq⟩ : ∃ q, all[j]? = some q := ⟨_, List.getElem?_eq_getElem hlt⟩
                      have hss := hst.out
                      rw [if_pos hlt] at hss
                      have hP := pair_st hT hss
                      simp only [pairAt, hq, Option.getD_some] at hP
                      have HP := Lib.hid hP
                      have HSS := Lib.hid hss
                      have hk1 : q.1.length ≤ 100000 := HKn.out.short _ (List.mem_of_getElem? hq)
                      have hnl := not_less (i := j) HKn.out.rise (by rw [HA0.out]; omega) hq
                      have HLs : Hid (∀ W, Calls Tryz.prog 26 #[strV q.1, strV key] W fun e w' => e = .returned (.bool false) ∧ Below W.heap.size W w') := fun W => by
                        have := less_any q.1 key W hk1 HKl.out
                        rw [hnl] at this
                        exact this
                      have hw1 : IntKind.i64.wrap ((k : Int) + 1) = (k : Int) + 1 := IntWalk.i64_in _ (by omega)
                      obtain ⟨qk, qv⟩ := q
                      simp only at HLs
                      clear hss hP hq hk1 hnl hst
                      go_wp2_with (fail)
                      go_must (refine HP.out.mono ?_)
                      rintro e w11 ⟨rfl, hb11⟩
                      have HB11 := Lib.hid hb11
                      clear hb11
                      go_wp2_with (fail)
                      go_must (refine (HLs.out _).mono ?_)
                      rintro e w12 ⟨rfl, hb12⟩
                      have hb13 := (HB11.out.alloc HB11.out.size (.cells #[strV qk, strV qv] 44)).trans (hb12.mono (by have := HB11.out.size; simp; omega))
                      have HNx := Lib.hid (next_st hT hlen (HSS.out.below hb13))
                      have HB13 := Lib.hid (hbl.out.trans (hb13.mono hbl.out.size))
                      have HZ13 := Lib.hid (HSS.out.below hb13).size
                      clear hb12 hb13
                      go_wp2_with (fail)
                      go_must (refine HNx.out.mono ?_)
                      rintro e w14 ⟨rfl, hst14, hk14⟩
                      have hbl14 : Below b w12 w14 := hk14.below HZ13.out fun k hk e => by have := e.1; omega
                      have HSt14 := Lib.hid hst14
                      have HBl14 := Lib.hid (HB13.out.trans (hbl14.mono (by have := HB2.out.size; have := HBB.out; omega)))
                      have e1 : (if j + 1 < all.length then some (j + 1) else none : Option Nat).isSome = decide (j + 1 < all.length) := by
                        by_cases hh : j + 1 < all.length
                        · simp [hh]
                        · simp [hh]
                      rw [e1]
                      clear hst14 hk14 hbl14 e1
                      go_wp2_with (fail)
                      go_roundg (all.length - (j + 1))
                      case measure => omega
                      case rel => exact ⟨j + 1, k + 1, rfl, by simp, by omega, by omega, Nat.le_refl _, HSt14.out, HBl14.out⟩
                    · rw [decide_eq_false hlt]
                      have hRr := range_any root key [] 0 all wr4 hst.out.pg hT hlen
                      rw [rangeP_rest, HA0.out] at hRr
                      have HRr := Lib.hid hRr
                      have hkk : (all.drop a0).length = k := by rw [List.length_drop]; omega
                      have HKK := Lib.hid hkk
                      clear hRr hst hkk
                      go_wp2_with (fail)
                      go_must (refine HRr.out.mono ?_)
                      rintro e w11 ⟨v11, rfl, hcl11, hb11⟩
                      obtain ⟨A11, rfl, _, _⟩ := hcl11.sl
                      rw [HKK.out]
                      have HB11 := Lib.hid (hbl.out.trans (hb11.mono hbl.out.size))
                      clear hcl11 hb11
                      go_wp2_with (fail)
                      go_must (refine (HAl.out _).mono ?_)
                      rintro e w12 ⟨rfl, hb12⟩
                      go_wp2_with (fail)
                      go_ret
                      exact ⟨rfl, HB11.out.trans (hb12.mono HB11.out.size)⟩

theorem call_cursWalks (A : Option Addr) (n c : Nat) (ops : List OpL) (key : ByteArray) (w : World) (h : OpsAt w (.slice A n c) ops) (hkey : key.size ≤ maxLen) :
    Calls Tryz.prog 5 #[.slice A n c, .string key] w (TrueB w) := by
  have := walks_walk alive12 A n c ops key.data.toList w h (by
    have e : key.data.toList.length = key.size := Array.length_toList
    unfold maxLen at hkey
    omega)
  have e2 : strV key.data.toList = .string key := by
    show Value.string ⟨key.data.toList.toArray⟩ = _
    rw [Array.toArray_toList]
  rw [e2] at this
  exact this
end Go.Ev
