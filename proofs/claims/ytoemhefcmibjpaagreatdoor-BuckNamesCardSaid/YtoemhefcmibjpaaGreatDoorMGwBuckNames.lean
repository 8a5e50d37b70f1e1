/-
  Buckets.
-/
import Derived.Test.YtoemhefcmibjpaaGreatDoorMEvInsert
import Derived.Test.YtoemhefcmibjpaaGreatDoorMGwAlive13
import Derived.SliceStrings
set_option linter.unusedVariables false
set_option linter.unusedSimpArgs false
set_option linter.unusedVariables false
set_option linter.unusedSimpArgs false
namespace Go.Ev
open Go.Proofs Go.RowKit
def TextsAt (w : World) (v : Value) (l : List Bytes) : Prop := Sl w 1 v l.length (textsV l) ∧ l.length ≤ maxLen ∧ ∀ s ∈ l, s.length ≤ maxLen
theorem textsV_at {l : List Bytes} {i : Nat} (h : i < l.length) : (textsV l)[i]? = some (strV l[i]) := by
 unfold textsV
 rw [List.getElem?_map, List.getElem?_eq_getElem h]
 rfl
theorem slice_one (x : UInt8) (s : Bytes) (w : World) : (Instr.slice 9 (strV (x :: s)) none (some (.int .i64 1)) none).run Tryz.prog w = .ok (strV [x]) w := by
 have h := run_slice_string_h (P := Tryz.prog) w 9 ⟨(x :: s).toArray⟩ Tryz.underlying9 .i64 1 (by omega) (by show (1 : Int) ≤ ((x :: s).length : Int); simp; omega)
 rw [h]
 have e := ByteArray.extract_mk (x :: s) 0 1
 simp at e
 simp [e]
theorem MadesB.roomyTake {i k rn rn' : Nat} {L L' : List Bk} {ns : List Bytes} (h : MadesB L rn (ns.take k) rn' L') (hf : FewB i rn L) (hi : i + ns.length ≤ 124) : Roomy 3000 rn' L' := by
 have h1 : (ns.take k).length ≤ ns.length := by rw [List.length_take]; exact Nat.min_le_right _ _
 exact FewB.roomy (h.few hf).1 (by omega)
structure NmIn (B p bb : Nat) (names : List Bytes) (i rn : Nat) (L : List Bk) (W : World) : Prop where
 hb : Hb B p bb 3000 rn L W
 few : FewB (4 * i) rn L
 there : ∀ j (hj : j < names.length), j < i → getB names[j] L ≠ none
 good : ∀ j (hj : j < names.length), j < i → 1 ≤ names[j].length ∧ names[j].length ≤ 40
set_option maxHeartbeats 16000000 in
set_option maxRecDepth 100000 in
theorem names_walk (hAl : ∀ W, Calls Tryz.prog 4 #[] W (TrueB W)) (A : Option Addr) (n c : Nat) (drop : Int) (names : List Bytes) (w : World) (h : TextsAt w (.slice A n c) names) :
  Calls Tryz.prog 3 #[.slice A n c, .int .i64 drop] w (TrueB w) := by
 have HAl := Lib.hid hAl
 obtain ⟨hv, hml, hlen⟩ := h
 have hnn : n = names.length := by obtain ⟨_, _, e, _⟩ := hv; cases e; rfl
 have HNN := Lib.hid hnn
 have HV0 := Lib.hid hv
 have HV : Hid (Sl w 1 (.slice A n c) n (textsV names)) := by show Sl _ _ _ _ _; rw [hnn]; rw [hnn] at hv; exact hv
 have HLen := Lib.hid hlen
 have hn0 : n ≤ maxLen := by omega
 unfold maxLen at hn0
 clear hlen hml hv hAl hnn HV0
 by_cases h30 : n ≤ 30
 case neg =>
  have h30' : (30 : Int) < (n : Int) := by omega
  have h30'' : ¬ (n : Int) ≤ 30 := by omega
  go_enter Tryz.func3, Tryz.ntmps3
  go_wp2_with (fail)
  go_must (refine (HAl.out _).mono ?_)
  rintro e w2 ⟨rfl, hb2⟩
  go_wp2_with (fail)
  go_ret
  exact ⟨rfl, hb2⟩
 have h30' : ¬ (30 : Int) < (n : Int) := by omega
 go_enter Tryz.func3, Tryz.ntmps3
 go_wp2_with (fail)
 go_must (refine (begin_any w).mono ?_)
 rintro e w1 ⟨d, f, p, pc, root, rfl, hp, hs, hb1⟩
 have HO := Lib.hid (hp.opened hs hb1.size)
 have HB1 := Lib.hid hb1
 clear hp hs hb1
 go_wp2_with (fail)
 go_must (refine (open_ok p root w1).mono ?_)
 rintro e w2 ⟨rfl, rfl⟩
 have HB2 := Lib.hid (HB1.out.trans (((Below.refl w1.heap.size w1).alloc (Nat.le_refl _) (.cells #[ptrV p, .int .i64 root, .int .i64 0] 49)).mono HB1.out.size))
 obtain ⟨bb, hbb⟩ : ∃ bb, w1.heap.size = bb := ⟨_, rfl⟩
 rw [hbb] at HO ⊢
 obtain ⟨w2, hw2⟩ : ∃ w2, w1.alloc (.cells #[ptrV p, .int .i64 root, .int .i64 0] 49) = w2 := ⟨_, rfl⟩
 rw [hw2] at HO HB2 ⊢
 clear hw2 hbb HB1
 go_wp2_with (fail)
 go_loopg [11] n (fun gk s11 wr => ∃ (i rn : Nat) (L : List Bk), s11 = .int .i64 (i : Int) ∧ i + gk = n ∧ Hid (NmIn w.heap.size p bb names i rn L wr) ∧ Hid (Below w.heap.size w wr))
 case atStart => exact ⟨0, 0, [], rfl, by omega, ⟨HO.out, ⟨by simp, by omega, fun b hb => (by cases hb)⟩, fun j _ hj => by omega, fun j _ hj => by omega⟩, HB2.out⟩
 case round =>
  clear HO HB2
  obtain ⟨i, rn, L, rfl, hi, hN, hbw⟩ := hrel
  by_cases h1 : i < n
  ·have h1' : (i : Int) < (n : Int) := by omega
   have hi0 : (0 : Int) ≤ (i : Int) := by omega
   have hw1 : IntKind.i64.wrap ((i : Int) + 1) = (i : Int) + 1 := IntWalk.i64_in _ (by omega)
   obtain ⟨A', c', e0, _, _, hcl⟩ := HV.out
   cases e0
   obtain ⟨blk, off, rfl, hbl, hcell⟩ := hcl (by omega)
   have hiN : i < names.length := by have := HNN.out; omega
   have x0 : w.cell? ⟨blk, off + i, none⟩ = some (strV names[i]) := hcell _ _ (textsV_at hiN)
   have hm1 := HLen.out _ (List.getElem_mem hiN)
   unfold maxLen at hm1
   obtain ⟨nm, hnm⟩ : ∃ nm, names[i] = nm := ⟨_, rfl⟩
   rw [hnm] at x0 hm1
   have HNm := Lib.hid hnm
   have HXX : Hid (∀ W, Below w.heap.size w W → W.cell? ⟨blk, off + i, none⟩ = some (strV nm)) := fun W hW => (hW.cell (p := ⟨blk, off + i, none⟩) hbl).trans x0
   have x1 := HXX.out wr hbw.out
   clear hcl hcell x0 hnm hbl
   obtain ⟨ln, hln⟩ : ∃ ln, nm.length = ln := ⟨_, rfl⟩
   rw [hln] at hm1
   by_cases g1 : 1 ≤ ln
   case neg =>
    have g1' : (ln : Int) < 1 := by omega
    go_wp2_with (fail)
    go_must (refine (HAl.out _).mono ?_)
    rintro e w3 ⟨rfl, hb3⟩
    go_wp2_with (fail)
    go_ret
    exact ⟨rfl, hbw.out.trans (hb3.mono hbw.out.size)⟩
   have g1' : ¬ (ln : Int) < 1 := by omega
   by_cases g2 : ln ≤ 40
   case neg =>
    have g2' : (40 : Int) < (ln : Int) := by omega
    go_wp2_with (fail)
    go_must (refine (HAl.out _).mono ?_)
    rintro e w3 ⟨rfl, hb3⟩
    go_wp2_with (fail)
    go_ret
    exact ⟨rfl, hbw.out.trans (hb3.mono hbw.out.size)⟩
   have g2' : ¬ (40 : Int) < (ln : Int) := by omega
   have hgood2 : ∀ nm' ∈ [nm, nm], 1 ≤ nm'.length ∧ nm'.length ≤ 40 := fun nm' h => by
    have : nm' = nm := by simpa using h
    subst this; omega
   obtain ⟨x, s, hxs⟩ : ∃ x s, nm = x :: s := by
    cases nm with
    | nil => simp at hln; omega
    | cons x s => exact ⟨x, s, rfl⟩
   have hsl : ∀ W, (Instr.slice 9 (strV nm) none (some (.int .i64 1)) none).run Tryz.prog W = .ok (strV [x]) W := fun W => by rw [hxs]; exact slice_one x s W
   have hN1 := hN.out
   have hb1 : Below wr.heap.size wr ((wr.alloc (.cells #[strV nm] 9)).drew) := ((Below.refl _ wr).alloc (Nat.le_refl _) _).drew
   have HM1 := Lib.hid (hN1.hb.make hb1 wr.heap.size (Nat.le_refl _) 0 1 1 [nm] ((sl_new wr [strV nm] _).drew) (by simp) (by omega) (fun a h => hgood2 a (.tail _ h)) (fun k rn' L' hm => hm.roomyTake hN1.few (by simp; omega)))
   have HB1 := Lib.hid (hbw.out.trans (hb1.mono hN1.hb.size))
   have HG := Lib.hid (And.intro hgood2 (And.intro hln hxs))
   clear hgood2 hxs hN1 hb1
   go_wp2_with (fail)
   refine wp_region_any (by kernel_rfl) ?_
   change wpAny _ _ _ _ _ _ _ (World.drew _)
   try simp only [Act.put, lT, l0, lS]
   refine tA 0 ?_; try simp only [Act.put, lT, l0, lS]
   refine tA 1 ?_; try simp only [Act.put, lT, l0, lS]
   refine tA 2 ?_; try simp only [Act.put, lT, l0, lS]
   refine tA 3 ?_; try simp only [Act.put, lT, l0, lS]
   try simp only [Act.put, lT, l0, lS]
   refine rA 4 (v := ?_) (hy := ?hy) ?_; case hy => (intro w hE; have q0 := hE.cell x1; go_simp; try with_reducible rfl)
   try simp only [Act.put, lT, l0, lS]
   refine rd 5 (by kernel_rfl) rfl (fun K hK => ?_); go_simp; refine hK _ _ ?_; clear hK K
   refine rd 6 (by kernel_rfl) rfl (fun K hK => ?_); go_simp
   (go_must (refine HM1.out.mono ?_); rintro e w3 ⟨rn3, L3, rfl, hQ, hH3, hb3⟩)
   have hF3 := hQ.few hN.out.few
   have hB3 := HB1.out.trans hb3
   have x3 := HXX.out w3 hB3
   have hb2 : Below w3.heap.size w3 (w3.alloc (.cells #[strV nm, strV nm] 9)) := (Below.refl _ w3).alloc (Nat.le_refl _) _
   have HM2 := Lib.hid (hH3.make hb2 w3.heap.size (Nat.le_refl _) 0 2 2 [nm, nm] (sl_new w3 [strV nm, strV nm] _) (by simp) (by omega) HG.out.1 (fun k rn' L' hm => hm.roomyTake hF3.1 (by simp; omega)))
   have HB3 := Lib.hid (hB3.trans (hb2.mono hH3.size))
   have HF3 := Lib.hid hF3
   clear hQ hF3 hB3 hb2 hH3 hb3
   go_simp
   refine hK _ _ ?_
   clear hK K
   refine rd 7 (by kernel_rfl) rfl (fun K hK => ?_); go_simp; refine hK _ _ ?_; clear hK K
   try simp only [Act.put, lT, l0, lS]
   refine tA 8 ?_; try simp only [Act.put, lT, l0, lS]
   refine tA 9 ?_; try simp only [Act.put, lT, l0, lS]
   refine tA 10 ?_; try simp only [Act.put, lT, l0, lS]
   refine tA 11 ?_; try simp only [Act.put, lT, l0, lS]
   refine tA 12 ?_; try simp only [Act.put, lT, l0, lS]
   refine tA 14 ?_; try simp only [Act.put, lT, l0, lS]
   refine tA 15 ?_; try simp only [Act.put, lT, l0, lS]
   refine tA 16 ?_; try simp only [Act.put, lT, l0, lS]
   try simp only [Act.put, lT, l0, lS]
   refine rA 13 (v := ?_) (hy := ?hy) ?_; case hy => (intro w hE; have q0 := hE.cell x3; go_simp; try with_reducible rfl)
   try simp only [Act.put, lT, l0, lS]
   try simp only [Act.put, lT, l0, lS]
   refine rA 17 (v := ?_) (hy := ?hy) ?_; case hy => (intro w hE; have q0 := hE.cell x3; go_simp; try with_reducible rfl)
   try simp only [Act.put, lT, l0, lS]
   refine rd 18 (by kernel_rfl) rfl (fun K hK => ?_); go_simp; refine hK _ _ ?_; clear hK K
   refine rd 19 (by kernel_rfl) rfl (fun K hK => ?_); go_simp
   (go_must (refine HM2.out.mono ?_); rintro e w4 ⟨rn4, L4, rfl, hQ, hH4, hb4⟩)
   have hF4 := hQ.few HF3.out.1
   have hB4 := HB3.out.trans hb4
   have x4 := HXX.out w4 hB4
   obtain ⟨b, hb⟩ : ∃ b, getB nm L4 = some b := by
    cases hq : getB nm L4 with
    | none => exact absurd hq (hF4.2.1 nm (by simp))
    | some b => exact ⟨b, rfl⟩
   have hle : 4 * i + [nm].length + [nm, nm].length ≤ 124 := by simp; omega
   have HP := Lib.hid (hH4.put nm [107] [x] b hb (hF4.1.roomy hle) (hF4.1.after hle _ _ _) (by omega) (by have := HG.out.2.1; omega) (by have := HG.out.2.1; omega) rfl)
   have HF4 : Hid (FewB (4 * i + 3) rn4 L4 ∧ b ∈ L4 ∧ getB nm L4 ≠ none ∧ ∀ k, getB k L ≠ none → getB k L4 ≠ none) := ⟨hF4.1, (getB_name hb).2, hF4.2.1 nm (by simp), fun k h => hF4.2.2 k (HF3.out.2.2 k h)⟩
   have HB4 := Lib.hid hB4
   clear hQ hF4 hB4 hH4 hb4 hle hb
   go_simp
   refine hK _ _ ?_
   clear hK K
   refine rd 20 (by kernel_rfl) rfl (fun K hK => ?_); go_simp; refine hK _ _ ?_; clear hK K
   try simp only [Act.put, lT, l0, lS]
   refine tA 21 ?_; try simp only [Act.put, lT, l0, lS]
   refine tA 22 ?_; try simp only [Act.put, lT, l0, lS]
   refine tA 23 ?_; try simp only [Act.put, lT, l0, lS]
   refine tA 24 ?_; try simp only [Act.put, lT, l0, lS]
   refine tA 25 ?_; try simp only [Act.put, lT, l0, lS]
   refine tA 26 ?_; try simp only [Act.put, lT, l0, lS]
   refine tA 28 ?_; try simp only [Act.put, lT, l0, lS]
   refine tA 29 ?_; try simp only [Act.put, lT, l0, lS]
   refine tA 30 ?_; try simp only [Act.put, lT, l0, lS]
   try simp only [Act.put, lT, l0, lS]
   refine rA 31 (v := ?_) (hy := ?hy) ?_; case hy => (intro w hE; have q0 := hE.cell x4; go_simp; try with_reducible rfl)
   try simp only [Act.put, lT, l0, lS]
   try simp only [Act.put, lT, l0, lS]
   refine tA 32 ?_; try simp only [Act.put, lT, l0, lS]
   try simp only [Act.put, lT, l0, lS]
   refine rA 27 (v := ?_) (hy := ?hy) ?_; case hy => (intro w hE; have q0 := hE.cell x4; go_simp; try with_reducible rfl)
   try simp only [Act.put, lT, l0, lS]
   refine rd 33 (by kernel_rfl) rfl (fun K hK => ?_); go_simp
   (go_must (refine HP.out.mono ?_); rintro e w5 ⟨rn5, L5, rfl, hQ, hH5, hb5⟩)
   have hF5 := hQ.few HF4.out.1 (by have := (HF4.out.1.each b HF4.out.2.1).1; omega) ((HF4.out.1.each b HF4.out.2.1).2.ins (by simp))
   have HN5 : Hid (NmIn w.heap.size p bb names (i + 1) rn5 L5 w5) := by
    refine ⟨hH5, hF5.1, fun j hj hji => ?_, fun j hj hji => ?_⟩
    ·rcases Nat.lt_or_eq_of_le (Nat.le_of_lt_succ hji) with hlt | heq
     ·exact hF5.2 _ (HF4.out.2.2.2 _ (hN.out.there j hj hlt))
     ·subst heq
      rw [HNm.out]
      exact hF5.2 _ HF4.out.2.2.1
    ·rcases Nat.lt_or_eq_of_le (Nat.le_of_lt_succ hji) with hlt | heq
     ·exact hN.out.good j hj hlt
     ·subst heq
      rw [HNm.out]
      have := HG.out.2.1
      omega
   have HB5 := Lib.hid (HB4.out.trans hb5)
   clear hQ hF5 hH5 hb5
   go_simp
   refine hK _ _ ?_
   clear hK K
   refine rd 34 (by kernel_rfl) rfl (fun K hK => ?_); go_simp; refine hK _ _ ?_; clear hK K
   refine rd 35 (by kernel_rfl) rfl (fun K hK => ?_); go_simp; refine hK _ _ ?_; clear hK K
   refine wpAny_done (by kernel_rfl) ?_ _
   go_wp2_with (fail)
   go_roundg (gk - 1)
   case measure => omega
   case rel => exact ⟨i + 1, rn5, L5, by simp, by omega, HN5.out, HB5.out⟩
  ·have h1' : ¬ (i : Int) < (n : Int) := by omega
   have hii : i = n := by omega
   subst hii
   have hN1 := hN.out
   have hfew : FewB 120 rn L := hN1.few.mono (by omega)
   have hrn : rn ≤ 20000 := by have := hfew.top; omega
   have hLl : L.length ≤ 120 := hfew.len
   have HNa := Lib.hid (hN1.hb.names hrn (by omega))
   have HK := Lib.hid (And.intro hN1 (And.intro hfew hN1.hb.rise))
   obtain ⟨m, hm⟩ : ∃ m, L.length = m := ⟨_, rfl⟩
   have HM := Lib.hid hm
   rw [hm] at hLl
   clear hN hN1 hfew hm hi
   go_wp2_with (fail)
   go_must (refine HNa.out.mono ?_)
   rintro e w3 ⟨v, rfl, hown, hb3⟩
   rw [HM.out] at hown
   obtain ⟨Al, cl, rfl, _⟩ := Sl.of_own hown
   have HSl := Lib.hid (Sl.of_own hown)
   have HH3 := Lib.hid (HK.out.1.hb.below hb3)
   have HB3 := Lib.hid (hbw.out.trans (hb3.mono HK.out.1.hb.size))
   clear hown hb3 HNa hbw
   go_wp2_with (fail)
   obtain ⟨wo, hwo⟩ : ∃ x, x = wr := ⟨_, rfl⟩
   subst hwo
   go_loopg [14] (max m 1 - 1) (fun gk s14 wr2 => ∃ (i2 j : Nat), s14 = .int .i64 (i2 : Int) ∧ i2 = j + 1 ∧ i2 + gk = max m 1 ∧ Hid (Below w3.heap.size w3 wr2))
   case atStart => exact ⟨1, 0, rfl, rfl, by omega, Below.refl _ _⟩
   case round =>
    obtain ⟨wr2, hwo⟩ : ∃ x, x = wr := ⟨_, rfl⟩
    subst hwo
    obtain ⟨i2, j, rfl, hj, hi2, hbw2⟩ := hrel
    by_cases h2 : i2 < m
    ·have h2' : (i2 : Int) < (m : Int) := by omega
     have hi0 : (0 : Int) ≤ (i2 : Int) := by omega
     have hj0 : (0 : Int) ≤ (j : Int) := by omega
     have hjm : (j : Int) < (m : Int) := by omega
     have hw1 : IntKind.i64.wrap ((i2 : Int) + 1) = (i2 : Int) + 1 := IntWalk.i64_in _ (by omega)
     have hwj : IntKind.i64.wrap (j : Int) = (j : Int) := IntWalk.i64_in _ (by omega)
     have ej : (i2 : Int) - 1 = (j : Int) := by omega
     obtain ⟨_, _, e0, _, _, hcl⟩ := HSl.out.below hbw2.out
     cases e0
     obtain ⟨bl2, of2, rfl, _, hcell⟩ := hcl (by omega)
     have hjl : j + 1 < L.length := by have := HM.out; omega
     have hst := HK.out.2.2.step hjl
     have hml : (L.map (·.name)).length = L.length := List.length_map _
     have y0 : (textsV (L.map (·.name)))[j]? = some (strV (L[j]'(by omega)).name) := by rw [textsV_at (l := L.map (·.name)) (by omega)]; simp
     have y1 : (textsV (L.map (·.name)))[j + 1]? = some (strV L[j + 1].name) := by rw [textsV_at (l := L.map (·.name)) (by omega)]; simp
     obtain ⟨na, hna⟩ : ∃ na, (L[j]'(by omega)).name = na := ⟨_, rfl⟩
     obtain ⟨nb, hnb⟩ : ∃ nb, L[j + 1].name = nb := ⟨_, rfl⟩
     rw [hna] at hst y0
     rw [hnb] at hst y1
     have x0 : wr2.cell? ⟨bl2, of2 + j, none⟩ = some (strV na) := hcell _ _ y0
     have x1 : wr2.cell? ⟨bl2, of2 + i2, none⟩ = some (strV nb) := by rw [hj]; exact hcell _ _ y1
     have hst2 := lessB_asymm hst
     have hne : (nb == na) = false := beq_eq_false_iff_ne.2 fun e => lessB_ne hst e.symm
     clear hcl hcell y0 y1 hna hnb hjl hml hj
     go_wp2_with (fail)
     refine wp_region_any (by kernel_rfl) ?_
     change wpAny _ _ _ _ _ _ _ (World.drew _)
     try simp only [Act.put, lT, l0, lS]
     refine tA 0 ?_; try simp only [Act.put, lT, l0, lS]
     refine tA 1 ?_; try simp only [Act.put, lT, l0, lS]
     refine tA 2 ?_; try simp only [Act.put, lT, l0, lS]
     refine tA 4 ?_; try simp only [Act.put, lT, l0, lS]
     refine tA 5 ?_; try simp only [Act.put, lT, l0, lS]
     refine tA 6 ?_; try simp only [Act.put, lT, l0, lS]
     refine tA 7 ?_; try simp only [Act.put, lT, l0, lS]
     try simp only [Act.put, lT, l0, lS]
     refine rA 3 (v := ?_) (hy := ?hy) ?_; case hy => (intro w hE; have q0 := hE.cell x1; go_simp; try with_reducible rfl)
     try simp only [Act.put, lT, l0, lS]
     try simp only [Act.put, lT, l0, lS]
     refine rA 8 (v := ?_) (hy := ?hy) ?_; case hy => (intro w hE; have q0 := hE.cell x0; go_simp; try with_reducible rfl)
     try simp only [Act.put, lT, l0, lS]
     refine rd 9 (by kernel_rfl) rfl (fun K hK => ?_); go_simp; refine hK _ _ ?_; clear hK K
     refine wpAny_done (by kernel_rfl) ?_ _
     go_wp2_with (fail)
     go_roundg (gk - 1)
     case measure => omega
     case rel => exact ⟨i2 + 1, i2, by simp, rfl, by omega, hbw2.out.drew⟩
    ·have h2' : ¬ (i2 : Int) < (m : Int) := by omega
     have HB4 := Lib.hid (HB3.out.trans (hbw2.out.mono (Nat.le_trans HH3.out.size (Nat.le_refl _))))
     have HH4 := Lib.hid (HH3.out.below hbw2.out)
     clear hj hi2 hbw2
     by_cases hd0 : drop < 0
     ·go_wp2_with (fail)
      go_must (refine (HAl.out _).mono ?_)
      rintro e w5 ⟨rfl, hb5⟩
      go_wp2_with (fail)
      go_ret
      exact ⟨rfl, HB4.out.trans (hb5.mono HB4.out.size)⟩
     ·by_cases hd1 : drop < (i : Int)
      ·obtain ⟨k, rfl⟩ : ∃ k : Nat, drop = (k : Int) := ⟨drop.toNat, by omega⟩
       have hki : k < i := by omega
       have hd1' : ¬ (i : Int) ≤ (k : Int) := by omega
       have hk0 : (0 : Int) ≤ (k : Int) := by omega
       have hkN : k < names.length := by have := HNN.out; omega
       obtain ⟨A', c', e0, _, _, hcl⟩ := HV.out
       cases e0
       obtain ⟨blk, off, rfl, hbl, hcell⟩ := hcl (by omega)
       obtain ⟨nm, hnm⟩ : ∃ nm, names[k] = nm := ⟨_, rfl⟩
       have x0 : w.cell? ⟨blk, off + k, none⟩ = some (strV nm) := by rw [← hnm]; exact hcell _ _ (textsV_at hkN)
       have HXX : Hid (∀ W, Below w.heap.size w W → W.cell? ⟨blk, off + k, none⟩ = some (strV nm)) := fun W hW => (hW.cell (p := ⟨blk, off + k, none⟩) hbl).trans x0
       have x1 := HXX.out wr2 HB4.out
       obtain ⟨b, hb⟩ : ∃ b, getB nm L = some b := by
        cases hq : getB nm L with
        | none => exact absurd hq (by rw [← hnm]; exact HK.out.1.there k hkN hki)
        | some b => exact ⟨b, rfl⟩
       obtain ⟨q1, q2⟩ : 1 ≤ nm.length ∧ nm.length ≤ 40 := by rw [← hnm]; exact HK.out.1.good k hkN hki
       have hgo : getB nm (delB nm L) = none := getB_del HK.out.2.2
       have hdl := delB_len hb
       have hps := ((HK.out.2.1.each b (getB_name hb).2).2.small).1
       obtain ⟨m2, hm2⟩ : ∃ m2, (delB nm L).length = m2 := ⟨_, rfl⟩
       rw [hm2, HM.out] at hdl
       have HF := Lib.hid (HK.out.2.1.del nm)
       have HGo := Lib.hid hgo
       have HQ := Lib.hid (And.intro q1 q2)
       have HM2 := Lib.hid hm2
       have HD := Lib.hid (HH4.out.drop nm b hb (HK.out.2.1.roomy (by omega)) (by omega) (by omega) q1 q2)
       have HDL := Lib.hid hdl
       clear hcl hcell x0 hnm hbl hb q1 q2 hgo hdl hps hm2
       go_wp2_with (fail)
       go_must (refine HD.out.mono ?_)
       rintro e w4 ⟨rn4, L4, rfl, ⟨rfl, rfl⟩, hH4, hb4⟩
       have HB5 := Lib.hid (HB4.out.trans hb4)
       have x2 := HXX.out w4 HB5.out
       have HH5 := Lib.hid hH4
       have HD2 := Lib.hid (hH4.dropNo nm HGo.out hrn HQ.out.1 HQ.out.2)
       clear hb4 hH4 x1
       go_wp2_with (fail)
       go_must (refine HD2.out.mono ?_)
       rintro e w5 ⟨rfl, hb5⟩
       have HB6 := Lib.hid (HB5.out.trans (hb5.mono HB5.out.size))
       have x3 := HXX.out w5 HB6.out
       have hH5 := HH5.out.below hb5
       have HH6 := Lib.hid hH5
       have HGt := Lib.hid (hH5.get nm [107] hrn (fun b hb => by have := (HF.out.each b hb).1; omega) HQ.out.1 HQ.out.2 (by decide) (by decide))
       clear hb5 hH5 x2
       go_wp2_with (fail)
       go_must (refine HGt.out.mono ?_)
       rintro e w6 ⟨hq, hb6⟩
       obtain rfl : e = .returned (.tuple #[strV [], .int .i64 7]) := by
        rcases hq with ⟨b, v, hb, hv, _⟩ | ⟨_, rfl⟩
        ·rw [HGo.out] at hb
         cases hb
        ·rfl
       have HB7 := Lib.hid (HB6.out.trans (hb6.mono HB6.out.size))
       have hH6 := HH6.out.below hb6
       have HH7 := Lib.hid hH6
       have HNa := Lib.hid (hH6.names hrn (by have := HM2.out; have := HDL.out; omega))
       clear hb6 hH6 x3 hq
       go_wp2_with (fail)
       go_must (refine HNa.out.mono ?_)
       rintro e w7 ⟨v, rfl, hown, hb7⟩
       rw [HM2.out] at hown
       obtain ⟨A7, c7, rfl, _⟩ := Sl.of_own hown
       have HB8 := Lib.hid (HB7.out.trans (hb7.mono HB7.out.size))
       clear hown hb7
       go_wp2_with (fail)
       go_must (refine (HAl.out _).mono ?_)
       rintro e w8 ⟨rfl, hb8⟩
       have HB9 := Lib.hid (HB8.out.trans (hb8.mono HB8.out.size))
       have em : (m : Int) - 1 = (m2 : Int) := by have := HDL.out; omega
       have hwm : IntKind.i64.wrap (m2 : Int) = (m2 : Int) := IntWalk.i64_in _ (by have := HDL.out; omega)
       clear hb8
       go_wp2_with (fail)
       go_ret
       exact ⟨rfl, HB9.out⟩
      ·have hd1' : (i : Int) ≤ drop := by omega
       go_wp2_with (fail)
       go_must (refine (HAl.out _).mono ?_)
       rintro e w5 ⟨rfl, hb5⟩
       go_wp2_with (fail)
       go_ret
       exact ⟨rfl, HB4.out.trans (hb5.mono HB4.out.size)⟩
section
open Go.ChangeShapes Go.WideShapes
variable {H : Type} {enc : TypeId × Value → H} {P : Program} {w : World} {base : Nat} {spare : Nat → Bool} {held : Bool}
theorem slice_texts {t e : TypeId} {fuel : Nat} {v : Value} {y : DataW H × List MemPlace} (ht : P.underlying t = some (.slice e)) (he : P.underlying e = some .string) (hC : P.cellsOf e = 1)
  (h : DataW.trod enc P w base spare held fuel t [v] = some y) : ∃ l, TextsAt w v l := by
 rcases open_strings ht he hC h with ⟨e0, _⟩ | ⟨a, len, cap, ss, e0, hb, hl, hm, hz, hx, hcell, hsz⟩
 ·simp only [List.cons.injEq, and_true] at e0
  subst e0
  exact ⟨[], Sl.nil .., Nat.zero_le _, fun o ho => by cases ho⟩
 ·simp only [List.cons.injEq, and_true] at e0
  subst e0
  have hls : len ≤ ss.length := by rw [hz]; split <;> omega
  have hll : ((ss.take len).map fun s => s.data.toList).length = len := by rw [List.length_map, List.length_take]; omega
  refine ⟨(ss.take len).map fun s => s.data.toList, ⟨some a, cap, by rw [hll], by rw [hll]; exact hl, by unfold textsV; rw [List.length_map]; omega, fun hp => ?_⟩, by rw [hll]; omega, fun s hs => ?_⟩
  ·have h0 := hcell 0 (by omega)
   have hsp : a.spot = none ∧ a.block < w.heap.size := by
    unfold World.cell? at h0
    split at h0
    ·rename_i c e' fz hq
     split at h0
     ·cases h0
     ·rename_i hs'
      exact ⟨by simpa [Addr.add] using hs', (Array.getElem?_eq_some_iff.1 hq).1⟩
    ·cases h0
   obtain ⟨bl, of, sp⟩ := a
   obtain ⟨hsp, hbl⟩ := hsp
   simp only at hsp
   subst hsp
   refine ⟨bl, of, rfl, hbl, fun j u hu => ?_⟩
   unfold textsV at hu
   rw [List.map_map, List.getElem?_map] at hu
   obtain ⟨s, hs, rfl⟩ := Option.map_eq_some_iff.1 hu
   rw [List.getElem?_take] at hs
   split at hs
   ·obtain ⟨hj, hjs⟩ := List.getElem?_eq_some_iff.1 hs
    have h1 := hcell j hj
    rw [addr_add, List.getD_eq_getElem?_getD, hs] at h1
    rw [h1]
    cases s
    simp
   ·cases hs
  ·obtain ⟨s', hs', rfl⟩ := List.mem_map.1 hs
   exact hsz s' (List.mem_of_mem_take hs')
end
end Go.Ev
