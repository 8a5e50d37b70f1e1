/-
  curs.Range: the pairs from one key on, below another one, so many at most.
-/
import Derived.Test.YtgfmhppkmogdhaaGreatDoorMPGwRange0
import Derived.Test.YtgfmhppkmogdhaaGreatDoorMPGwRangeLaw
set_option linter.unusedVariables false
set_option linter.unusedSimpArgs false
set_option linter.unusedVariables false
set_option linter.unusedSimpArgs false
namespace Go.Ev
open Go.Proofs Go.RowKit

/-- A row that is handed out: its capacity is its length. -/
def clipV : Value → Value
  | .slice A n _ => .slice A n n
  | v => v

def ClipAt (w : World) (B : Nat) (v : Value) (l : List Pair) : Prop := ∃ u, w.ownsRow B 44 2 u l.length (pairsCs l) ∧ v = clipV u

theorem ClipAt.sl {w : World} {B : Nat} {v : Value} {l : List Pair} (h : ClipAt w B v l) : ∃ A, v = .slice A l.length l.length ∧ (A = none → l.length = 0) ∧ Sl w 2 (.slice A l.length l.length) l.length (pairsCs l) := by
  obtain ⟨u, h1, rfl⟩ := h
  obtain ⟨A, c, e, h2, h3, h4⟩ := Sl.of_own h1
  rcases h1.2 with ⟨rfl, h0⟩ | ⟨g, cap, cur, rfl, _⟩
  · refine ⟨none, by rw [h0]; rfl, fun _ => h0, ?_⟩
    rw [h0, List.eq_nil_of_length_eq_zero h0]
    exact Sl.nil ..
  · simp only [Value.slice.injEq] at e
    obtain ⟨rfl, _, rfl⟩ := e
    exact ⟨_, rfl, (fun e => by cases e), _, _, rfl, Nat.le_refl _, h3, h4⟩
theorem ClipAt.below {w w' : World} {B : Nat} {v : Value} {l : List Pair} (h : ClipAt w B v l) (hb : Below w.heap.size w w') : ClipAt w' B v l := by
  obtain ⟨u, h1, h2⟩ := h
  exact ⟨u, own_below h1 hb, h2⟩

theorem clip_any (B : Nat) (u : Value) (n : Nat) (xs : List Value) (w : World) (h : w.ownsRow B 44 2 u n xs) (hn : n ≤ 1000000) :
    Calls Tryz.prog 38 #[u] w fun e w' => e = .returned (clipV u) ∧ w = w' := by
  rcases h.2 with ⟨rfl, h0⟩ | ⟨g, cap, cur, rfl, _, _, hnc, _⟩
  · go_enter Tryz.func38, Tryz.ntmps38
    go_wp2
    go_ret
    exact ⟨rfl, rfl⟩
  · have hn0 : (0 : Int) ≤ (n : Int) := by omega
    go_enter Tryz.func38, Tryz.ntmps38
    go_wp2
    go_ret
    exact ⟨rfl, rfl⟩

section
variable {p mst cnt : Nat} {c : Pc} {M : Store}

def RangePost (B : Nat) (l : List Pair) (w : World) (e : Ending) (w' : World) : Prop := ∃ v, e = .returned (.tuple #[v, .int .i64 0]) ∧ ClipAt w' B v l ∧ Below w.heap.size w w'

/-- Between two rounds. -/
structure RgI (G : Nat → Prop) (w : World) (p b : Nat) (c : Pc) (mst cnt : Nat) (M : Store) (root : Int) (all : List Pair) (lo hi : Bytes) (most : Int) (i : Nat) (acc : List Pair) (v : Value) (W : World) : Prop where
  st : CSt w.heap.size (fun k => G k ∨ v.ownBlock = some k) p b c mst cnt M root all (if i < all.length then some i else none) W
  own : W.ownsRow w.heap.size 44 2 v acc.length (pairsCs acc)
  law : acc ++ goR hi most acc.length (all.drop i) = rangeP lo hi most all
  bl : Below w.heap.size w W
  len : acc.length ≤ i

theorem RgI.done {G : Nat → Prop} {w W : World} {b : Nat} {root : Int} {all : List Pair} {lo hi : Bytes} {most : Int} {i : Nat} {acc : List Pair} {v : Value} (h : RgI G w p b c mst cnt M root all lo hi most i acc v W) (hs : ∀ q, all[i]? = some q → stopR hi most acc.length q = true) : acc = rangeP lo hi most all := by
  rw [← h.law]
  cases hd : all.drop i with
  | nil => simp [goR]
  | cons q l =>
    have : all[i]? = some q := by
      have h1 : (all.drop i)[0]? = some q := by rw [hd]; rfl
      rw [List.getElem?_drop] at h1
      simpa using h1
    simp [goR, hs q this]

theorem RgI.next {G : Nat → Prop} {w W w3 w4 : World} {b : Nat} {root : Int} {all : List Pair} {lo hi : Bytes} {most : Int} {i : Nat} {acc : List Pair} {v v' : Value} {q : Pair} (h : RgI G w p b c mst cnt M root all lo hi most i acc v W) (hlt : i < all.length) (hq : all[i]? = some q) (hs : stopR hi most acc.length q = false)
    (hb3 : Below W.heap.size W w3) (hcB : ∀ k, c.S p k → k < w.heap.size) (hown : w4.ownsRow w.heap.size 44 2 v' (acc.length + 1) (pairsCs acc ++ pairsCs [q])) (hg : w3.grownBy w4 v.ownBlock) (hat : ∀ k, v'.ownBlock = some k → v.ownBlock = some k ∨ w3.heap.size ≤ k) :
    CSt w.heap.size (fun k => G k ∨ v'.ownBlock = some k) p b c mst cnt M root all (some i) w4 ∧ w4.ownsRow w.heap.size 44 2 v' (acc ++ [q]).length (pairsCs (acc ++ [q])) ∧ (acc ++ [q]) ++ goR hi most (acc ++ [q]).length (all.drop (i + 1)) = rangeP lo hi most all ∧ Below w.heap.size w w4 := by
  have hst := h.st
  rw [if_pos hlt] at hst
  have hown3 := own_below h.own hb3
  have hz3 := hb3.size
  have hzw := h.bl.size
  refine ⟨(hst.below hb3).turnP ((Keeps.refl (fun k => v.ownBlock = some k) w3).grown hg (fun k e _ => e)) (fun k hk hl => ?_) (fun k hk => (h.own.lt k hk).1) hcB (fun k hk => ?_), ?_, ?_, ?_⟩
  · obtain ⟨cur, hr⟩ := own_row hown3 k hk
    exact ⟨cur, _, hr⟩
  · rcases hk with hk | hk
    · exact .inl (.inl hk)
    rcases hat k hk with e | e
    · exact .inl (.inr e)
    · exact .inr (.inr ⟨e, (hown.lt k hk).2⟩)
  · rw [pairsCs_app, List.length_append]
    exact hown
  · rw [← h.law]
    have hd : all.drop i = q :: all.drop (i + 1) := by
      rw [List.drop_eq_getElem_cons hlt]
      rw [List.getElem?_eq_getElem hlt, Option.some.injEq] at hq
      rw [hq]
    rw [hd]
    simp [goR, hs]
  · exact (h.bl.trans (hb3.mono hzw)).grown hg (by omega) (fun k hk => (h.own.lt k hk).1)

theorem RgI.go {G : Nat → Prop} {w w5 w6 : World} {b : Nat} {root : Int} {all : List Pair} {lo hi : Bytes} {most : Int} {i : Nat} {acc : List Pair} {v' : Value} {q : Pair} {e : Ending} (hx : w5.ownsRow w.heap.size 44 2 v' (acc ++ [q]).length (pairsCs (acc ++ [q])) ∧ (acc ++ [q]) ++ goR hi most (acc ++ [q]).length (all.drop (i + 1)) = rangeP lo hi most all ∧ Below w.heap.size w w5) (hle : acc.length ≤ i)
    (hs : CStP w.heap.size (fun k => G k ∨ v'.ownBlock = some k) p b c mst cnt M root all (if i + 1 < all.length then some (i + 1) else none) w5 e w6) : e = .returned (.bool (decide (i + 1 < all.length))) ∧ RgI G w p b c mst cnt M root all lo hi most (i + 1) (acc ++ [q]) v' w6 := by
  obtain ⟨h1, h2, h3⟩ := hx
  obtain ⟨rfl, s1, s2⟩ := hs
  have hbo : (if i + 1 < all.length then some (i + 1) else none : Option Nat).isSome = decide (i + 1 < all.length) := by
    by_cases hlt : i + 1 < all.length
    · simp [hlt]
    · simp [hlt]
  refine ⟨by rw [hbo], s1, own_keeps h1 s2 (fun k hk hf => hf.2 (.inr hk)), h2, h3.trans (below_frm s2 h3.size), ?_⟩
  rw [List.length_append]
  simp
  omega

set_option maxHeartbeats 8000000 in
set_option maxRecDepth 100000 in
theorem range_any (root : Int) (lo hi : Bytes) (most : Int) (all : List Pair) (w : World) (h : PgOk w p c mst M cnt) (hT : TreeOk M root all cnt) (hlen : all.length ≤ 511) :
    Calls Tryz.prog 11 #[ptrV p, .int .i64 root, strV lo, strV hi, .int .i64 most] w (RangePost w.heap.size (rangeP lo hi most all) w) := by
  obtain ⟨i0, hinf, q0, q1, q2⟩ := info_parts infoPair
  have hcB := h.lt
  have HCB := Lib.hid hcB
  have HN := Lib.hid (new_st (root := root) (all := all) h)
  clear h hcB
  go_enter Tryz.func11, Tryz.ntmps11
  go_wp2_with (fail)
  go_must (refine HN.out.mono ?_)
  rintro e w1 ⟨b, rfl, hst, hb1⟩
  have HB1 := Lib.hid hb1
  have HS := Lib.hid (seek_st lo hT hlen hst)
  have hz1 := hst.size
  clear hst hb1
  obtain ⟨i, hi0⟩ : ∃ i, aheadP lo all = i := ⟨_, rfl⟩
  have hile : i ≤ all.length := by rw [← hi0]; exact aheadP_le lo all
  rw [hi0] at HS
  have hlaw : rangeP lo hi most all = goR hi most 0 (all.drop i) := by unfold rangeP; rw [hi0]
  have HLaw := Lib.hid hlaw
  clear hi0 hlaw
  go_wp2_with (fail)
  go_must (refine HS.out.mono ?_)
  rintro e w2 ⟨rfl, hst2, hk2⟩
  have hRg : RgI (fun _ => False) w p b c mst cnt M root all lo hi most i [] (.slice none 0 0) w2 :=
    ⟨hst2.turnP (Keeps.refl (fun _ => False) _) (fun k hk => hk.elim) (fun k hk => hk.elim) HCB.out (fun k hk => by rcases hk with hk | hk <;> cases hk), World.ownsRow_nil _ _ _ _, by rw [HLaw.out]; rfl, HB1.out.trans (below_frm hk2 hz1), Nat.zero_le _⟩
  have HRg := Lib.hid hRg
  have hbo : (if i < all.length then some i else none : Option Nat).isSome = decide (i < all.length) := by
    by_cases hlt : i < all.length
    · simp [hlt]
    · simp [hlt]
  rw [hbo]
  clear hst2 hk2 hRg hbo
  go_wp2_with (fail)
  go_loopg [13, 14] (all.length + 1) (fun gk s13 s14 wr => ∃ (i : Nat) (acc : List Pair), s14 = .bool (decide (i < all.length)) ∧ i ≤ all.length ∧ all.length - i ≤ gk ∧ Hid (RgI (fun _ => False) w p b c mst cnt M root all lo hi most i acc s13 wr))
  case atStart => exact ⟨i, [], rfl, hile, by omega, HRg.out⟩
  case round =>
    clear hile HRg HS HN HB1 HLaw
    obtain ⟨i, acc, rfl, hile, hgk, hI⟩ := hrel
    have hown := hI.out.own
    obtain ⟨A, cc, rfl, _⟩ := Sl.of_own hown
    by_cases hlt : i < all.length
    · rw [decide_eq_true hlt]
      obtain ⟨q, hq⟩ : ∃ q, all[i]? = some q := ⟨_, List.getElem?_eq_getElem hlt⟩
      have hst := hI.out.st
      rw [if_pos hlt] at hst
      have hP := pair_st hT hst
      simp only [pairAt, hq, Option.getD_some] at hP
      have HP := Lib.hid hP
      have HST := Lib.hid hst
      obtain ⟨na, hna⟩ : ∃ n, acc.length = n := ⟨_, rfl⟩
      have hnal := hI.out.len
      rw [hna] at hnal hown
      have HNA := Lib.hid hna
      have HQ := Lib.hid hq
      have HOwn := Lib.hid hown
      clear hst hP hq hna hown
      obtain ⟨qk, qv⟩ := q
      go_wp2_with (fail)
      rw [HNA.out]
      go_must (refine HP.out.mono ?_)
      rintro e w3 ⟨rfl, hb3⟩
      have HB3 := Lib.hid hb3
      have hb4 : Below wr.heap.size wr (w3.alloc (.cells #[strV qk, strV qv] 44)) := hb3.alloc hb3.size _
      have HE : Hid (∀ W, W = w3.alloc (.cells #[strV qk, strV qv] 44) → Calls Tryz.prog 21 #[ptrV b] W fun e w' => e = .returned (.int .i64 0) ∧ W = w') := fun W hW => by
        subst hW
        exact err_st (HST.out.below hb4)
      have HC : Hid (∀ W, W = w3.alloc (.cells #[strV qk, strV qv] 44) → Calls Tryz.prog 38 #[.slice A na cc] W fun e w' => e = .returned (clipV (.slice A na cc)) ∧ W = w') := fun W hW => by
        subst hW
        exact clip_any _ _ _ _ _ (own_below HOwn.out hb4) (by omega)
      have HEnd : Hid (acc = rangeP lo hi most all → RangePost w.heap.size (rangeP lo hi most all) w (.returned (.tuple #[clipV (.slice A na cc), .int .i64 0])) (w3.alloc (.cells #[strV qk, strV qv] 44))) := fun e => by
        refine ⟨_, rfl, ⟨.slice A na cc, ?_, rfl⟩, hI.out.bl.trans (hb4.mono hI.out.bl.size)⟩
        rw [← e, HNA.out]
        exact own_below HOwn.out hb4
      clear hb3 hb4
      by_cases hh : hi = []
      · have hh1 : (hi == ([] : Bytes)) = true := by simpa using hh
        have HHi := Lib.hid hh
        clear hh
        by_cases hm0 : 0 < most
        · by_cases hm1 : most ≤ (na : Int)
          · have HD : Hid (acc = rangeP lo hi most all) := hI.out.done fun q' hq' => by
              have e := HQ.out
              rw [hq', Option.some.injEq] at e
              subst e
              show stopR hi most acc.length (qk, qv) = true
              rw [HNA.out]
              simp [stopR, hm0, hm1]
            go_wp2_with (fail)
            go_must (refine (HE.out _ rfl).mono ?_)
            rintro e w4 ⟨rfl, rfl⟩
            go_wp2_with (fail)
            go_must (refine (HC.out _ rfl).mono ?_)
            rintro e w4 ⟨rfl, rfl⟩
            go_wp2_with (fail)
            refine bodyPost_ret (v := .tuple #[clipV (.slice A na cc), .int .i64 0]) (by simp [results, Tryz.results11, go_sem]) rfl ?_
            exact HEnd.out HD.out
          · have HStop : Hid (stopR hi most na (qk, qv) = false) := by
              show _ = _
              simp [stopR, HHi.out, hm1]
            go_wp2_with (at_builtin; go_must (refine wpList_append_at rfl _ _ 26 rfl w.heap.size 44 i0 _ 2 32 Tryz.underlying26 hinf q0 q1 q2 rfl (by decide) _ na (pairsCs acc) rfl (((own_below HOwn.out HB3.out).alloc _).alloc _) ⟨w3.heap.size + 1, 0, none⟩ 1 1 (pairsCs [(qk, qv)]) rfl rfl (row_pair _ (qk, qv) _ _ (by simp)) (pairsCs_one _) (by unfold maxLen; omega) (by omega) (by have := HB3.out.size; have := hI.out.bl.size; simp; omega) ?_))
            intro v5 w5 own5 hg5 hat5
            obtain ⟨n1, n2⟩ := RgI.next hI.out hlt HQ.out (by rw [HNA.out]; exact HStop.out) (HB3.out.trans (((Below.refl _ w3).alloc (Nat.le_refl _) (.cells #[strV qk, strV qv] 44)).alloc (by simp) (.cells #[strV qk, strV qv] 44) |>.mono HB3.out.size)) HCB.out (by rw [HNA.out]; exact own5) (by rw [HNA.out]; exact hg5) (fun k hk => by rw [HNA.out]; simpa using hat5 k hk)
            have HN2 := Lib.hid n2
            have HNx := Lib.hid (next_st hT hlen n1)
            obtain ⟨A5, c5, rfl, _⟩ := Sl.of_own own5
            clear n1 n2 own5 hg5 hat5
            go_wp2_with (fail)
            go_must (refine HNx.out.mono ?_)
            intro e w6 h6
            obtain ⟨rfl, hR⟩ := RgI.go HN2.out (by rw [HNA.out]; exact hnal) h6
            have HR := Lib.hid hR
            clear hR h6
            go_wp2_with (fail)
            go_roundg (all.length - (i + 1))
            case measure => omega
            case rel => exact ⟨i + 1, acc ++ [(qk, qv)], rfl, by omega, Nat.le_refl _, HR.out⟩
        · have HStop : Hid (stopR hi most na (qk, qv) = false) := by
            show _ = _
            simp [stopR, HHi.out, hm0]
          go_wp2_with (at_builtin; go_must (refine wpList_append_at rfl _ _ 26 rfl w.heap.size 44 i0 _ 2 32 Tryz.underlying26 hinf q0 q1 q2 rfl (by decide) _ na (pairsCs acc) rfl (((own_below HOwn.out HB3.out).alloc _).alloc _) ⟨w3.heap.size + 1, 0, none⟩ 1 1 (pairsCs [(qk, qv)]) rfl rfl (row_pair _ (qk, qv) _ _ (by simp)) (pairsCs_one _) (by unfold maxLen; omega) (by omega) (by have := HB3.out.size; have := hI.out.bl.size; simp; omega) ?_))
          intro v5 w5 own5 hg5 hat5
          obtain ⟨n1, n2⟩ := RgI.next hI.out hlt HQ.out (by rw [HNA.out]; exact HStop.out) (HB3.out.trans (((Below.refl _ w3).alloc (Nat.le_refl _) (.cells #[strV qk, strV qv] 44)).alloc (by simp) (.cells #[strV qk, strV qv] 44) |>.mono HB3.out.size)) HCB.out (by rw [HNA.out]; exact own5) (by rw [HNA.out]; exact hg5) (fun k hk => by rw [HNA.out]; simpa using hat5 k hk)
          have HN2 := Lib.hid n2
          have HNx := Lib.hid (next_st hT hlen n1)
          obtain ⟨A5, c5, rfl, _⟩ := Sl.of_own own5
          clear n1 n2 own5 hg5 hat5
          go_wp2_with (fail)
          go_must (refine HNx.out.mono ?_)
          intro e w6 h6
          obtain ⟨rfl, hR⟩ := RgI.go HN2.out (by rw [HNA.out]; exact hnal) h6
          have HR := Lib.hid hR
          clear hR h6
          go_wp2_with (fail)
          go_roundg (all.length - (i + 1))
          case measure => omega
          case rel => exact ⟨i + 1, acc ++ [(qk, qv)], rfl, by omega, Nat.le_refl _, HR.out⟩
      · have hh1 : (hi == ([] : Bytes)) = false := by simpa using hh
        cases hlb : lessB qk hi with
        | true =>
          by_cases hm0 : 0 < most
          · by_cases hm1 : most ≤ (na : Int)
            · have HD : Hid (acc = rangeP lo hi most all) := hI.out.done fun q' hq' => by
                have e := HQ.out
                rw [hq', Option.some.injEq] at e
                subst e
                show stopR hi most acc.length (qk, qv) = true
                rw [HNA.out]
                simp [stopR, hm0, hm1]
              go_wp2_with (fail)
              go_must (refine (HE.out _ rfl).mono ?_)
              rintro e w4 ⟨rfl, rfl⟩
              go_wp2_with (fail)
              go_must (refine (HC.out _ rfl).mono ?_)
              rintro e w4 ⟨rfl, rfl⟩
              go_wp2_with (fail)
              refine bodyPost_ret (v := .tuple #[clipV (.slice A na cc), .int .i64 0]) (by simp [results, Tryz.results11, go_sem]) rfl ?_
              exact HEnd.out HD.out
            · have HStop : Hid (stopR hi most na (qk, qv) = false) := by
                show _ = _
                simp [stopR, hlb, hm1]
              go_wp2_with (at_builtin; go_must (refine wpList_append_at rfl _ _ 26 rfl w.heap.size 44 i0 _ 2 32 Tryz.underlying26 hinf q0 q1 q2 rfl (by decide) _ na (pairsCs acc) rfl (((own_below HOwn.out HB3.out).alloc _).alloc _) ⟨w3.heap.size + 1, 0, none⟩ 1 1 (pairsCs [(qk, qv)]) rfl rfl (row_pair _ (qk, qv) _ _ (by simp)) (pairsCs_one _) (by unfold maxLen; omega) (by omega) (by have := HB3.out.size; have := hI.out.bl.size; simp; omega) ?_))
              intro v5 w5 own5 hg5 hat5
              obtain ⟨n1, n2⟩ := RgI.next hI.out hlt HQ.out (by rw [HNA.out]; exact HStop.out) (HB3.out.trans (((Below.refl _ w3).alloc (Nat.le_refl _) (.cells #[strV qk, strV qv] 44)).alloc (by simp) (.cells #[strV qk, strV qv] 44) |>.mono HB3.out.size)) HCB.out (by rw [HNA.out]; exact own5) (by rw [HNA.out]; exact hg5) (fun k hk => by rw [HNA.out]; simpa using hat5 k hk)
              have HN2 := Lib.hid n2
              have HNx := Lib.hid (next_st hT hlen n1)
              obtain ⟨A5, c5, rfl, _⟩ := Sl.of_own own5
              clear n1 n2 own5 hg5 hat5
              go_wp2_with (fail)
              go_must (refine HNx.out.mono ?_)
              intro e w6 h6
              obtain ⟨rfl, hR⟩ := RgI.go HN2.out (by rw [HNA.out]; exact hnal) h6
              have HR := Lib.hid hR
              clear hR h6
              go_wp2_with (fail)
              go_roundg (all.length - (i + 1))
              case measure => omega
              case rel => exact ⟨i + 1, acc ++ [(qk, qv)], rfl, by omega, Nat.le_refl _, HR.out⟩
          · have HStop : Hid (stopR hi most na (qk, qv) = false) := by
              show _ = _
              simp [stopR, hlb, hm0]
            go_wp2_with (at_builtin; go_must (refine wpList_append_at rfl _ _ 26 rfl w.heap.size 44 i0 _ 2 32 Tryz.underlying26 hinf q0 q1 q2 rfl (by decide) _ na (pairsCs acc) rfl (((own_below HOwn.out HB3.out).alloc _).alloc _) ⟨w3.heap.size + 1, 0, none⟩ 1 1 (pairsCs [(qk, qv)]) rfl rfl (row_pair _ (qk, qv) _ _ (by simp)) (pairsCs_one _) (by unfold maxLen; omega) (by omega) (by have := HB3.out.size; have := hI.out.bl.size; simp; omega) ?_))
            intro v5 w5 own5 hg5 hat5
            obtain ⟨n1, n2⟩ := RgI.next hI.out hlt HQ.out (by rw [HNA.out]; exact HStop.out) (HB3.out.trans (((Below.refl _ w3).alloc (Nat.le_refl _) (.cells #[strV qk, strV qv] 44)).alloc (by simp) (.cells #[strV qk, strV qv] 44) |>.mono HB3.out.size)) HCB.out (by rw [HNA.out]; exact own5) (by rw [HNA.out]; exact hg5) (fun k hk => by rw [HNA.out]; simpa using hat5 k hk)
            have HN2 := Lib.hid n2
            have HNx := Lib.hid (next_st hT hlen n1)
            obtain ⟨A5, c5, rfl, _⟩ := Sl.of_own own5
            clear n1 n2 own5 hg5 hat5
            go_wp2_with (fail)
            go_must (refine HNx.out.mono ?_)
            intro e w6 h6
            obtain ⟨rfl, hR⟩ := RgI.go HN2.out (by rw [HNA.out]; exact hnal) h6
            have HR := Lib.hid hR
            clear hR h6
            go_wp2_with (fail)
            go_roundg (all.length - (i + 1))
            case measure => omega
            case rel => exact ⟨i + 1, acc ++ [(qk, qv)], rfl, by omega, Nat.le_refl _, HR.out⟩
        | false =>
          have HD : Hid (acc = rangeP lo hi most all) := hI.out.done fun q' hq' => by
            have e := HQ.out
            rw [hq', Option.some.injEq] at e
            subst e
            show stopR hi most acc.length (qk, qv) = true
            rw [HNA.out]
            simp [stopR, hh, hlb]
          go_wp2_with (fail)
          go_must (refine (HE.out _ rfl).mono ?_)
          rintro e w4 ⟨rfl, rfl⟩
          go_wp2_with (fail)
          go_must (refine (HC.out _ rfl).mono ?_)
          rintro e w4 ⟨rfl, rfl⟩
          go_wp2_with (fail)
          refine bodyPost_ret (v := .tuple #[clipV (.slice A na cc), .int .i64 0]) (by simp [results, Tryz.results11, go_sem]) rfl ?_
          exact HEnd.out HD.out
    · rw [decide_eq_false hlt]
      have hst := hI.out.st
      rw [if_neg hlt] at hst
      have HE := Lib.hid (err_st hst)
      have HD : Hid (acc = rangeP lo hi most all) := hI.out.done fun q hq => absurd (List.getElem?_eq_some_iff.1 hq).1 hlt
      clear hst
      go_wp2_with (fail)
      go_must (refine HE.out.mono ?_)
      rintro e w3 ⟨rfl, rfl⟩
      have HC := Lib.hid (clip_any _ _ _ _ wr hown (by have := hI.out.len; omega))
      go_wp2_with (fail)
      go_must (refine HC.out.mono ?_)
      rintro e w3 ⟨rfl, rfl⟩
      go_wp2_with (fail)
      refine bodyPost_ret (v := .tuple #[clipV (.slice A acc.length cc), .int .i64 0]) (by simp [results, Tryz.results11, go_sem]) rfl ?_
      refine ⟨_, rfl, ⟨_, ?_, rfl⟩, hI.out.bl⟩
      rw [← HD.out]
      exact hI.out.own
end
end Go.Ev
