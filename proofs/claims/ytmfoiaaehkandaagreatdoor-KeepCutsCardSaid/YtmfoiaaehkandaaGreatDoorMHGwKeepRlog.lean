/-
  Texts of this claim.
-/
import Derived.Test.YtmfoiaaehkandaaGreatDoorMHGwKeepLog
set_option linter.unusedVariables false
set_option linter.unusedSimpArgs false
set_option maxHeartbeats 4000000
set_option maxRecDepth 100000
namespace Go.Ev
open Go.Proofs Go.RowKit
theorem setCell_id {w : World} {a : Addr} {v : Value} (h : w.cell? a = some v) : w.setCell a v = w := by
 unfold World.cell? at h
 split at h
 ·rename_i c e f hc
  split at h
  ·cases h
  ·rename_i hs
   have h2 : w.heap.modify a.block (fun | .cells c elem frozen => .cells (if a.spot.isSome then c else c.setIfInBounds a.off v) elem frozen | o => o) = w.heap := by
    apply Array.ext_getElem?
    intro i
    rw [Array.getElem?_modify]
    split
    ·rename_i hi
     subst hi
     rw [hc]
     simp only [Option.map_some, hs, if_false]
     congr 2
     apply Array.ext_getElem?
     intro j
     rw [Array.getElem?_setIfInBounds]
     split
     ·rename_i hj
      subst hj
      obtain ⟨h3, h4⟩ := Array.getElem?_eq_some_iff.1 h
      rw [if_pos h3, h]
     ·rfl
    ·rfl
   exact congrArg (fun h => { w with heap := h }) h2
 ·cases h
theorem entCs_len (o : LogE) : (entCs o).length = 4 := rfl
theorem entCs_one (es : List LogE) : ∀ u ∈ es.flatMap entCs, u.oneCell' = true := by
 intro u hu
 obtain ⟨o, _, h⟩ := List.mem_flatMap.1 hu
 simp only [entCs, List.mem_cons, List.not_mem_nil, or_false] at h
 rcases h with rfl | rfl | rfl | rfl <;> rfl
theorem cloneE_any (A : Addr) (n c : Nat) (l : List LogE) (w : World) (hv : Sl w 4 (.slice (some A) n c) n (l.flatMap entCs)) (hn : n ≤ 100000) :
  Calls Tryz.prog 155 #[.slice (some A) n c] w fun e w' =>
   ∃ v', e = .returned v' ∧ w'.ownsRow w.heap.size 62 4 v' n (l.flatMap entCs) ∧ Below w.heap.size w w' := by
 obtain ⟨i0, hi, hz0, hz1, hz2⟩ := info_parts (show (Tryz.prog.info? 62).map (fun i => (i.zero, i.size, i.bytes)) = some (some (.agg #[.int .i64 0, .int .i64 0, .int .i64 0, strV []]), 4, 40) by kernel_rfl)
 have q22 : ∀ (w : World) (a : Option Addr) (n c n' c' : Nat), (binOp .eql 24 (.slice a n c) (.slice none n' c')).run Tryz.prog w = .ok (.bool a.isNone) w := fun w a n c n' c' => Lib.run_eql_slice_nil w _ 62 a n c n' c' Tryz.underlying24
 go_enter Tryz.func155, Tryz.ntmps155
 go_wp2_with (at_builtin; go_must (refine wpList_append_own _ rfl _ _ 24 rfl w.heap.size 62 i0 _ 4 40 Tryz.underlying24 hi hz0 hz1 hz2 rfl (by decide) _ _ _ rfl (World.ownsRow_made w #[] 0 (Nat.le_refl _) (Nat.zero_le _) rfl) A n c (l.flatMap entCs) rfl ?c0 ?c1 ?c2 ?c3 ?c4 ?c5 ?_))
 case c0 =>
  obtain ⟨_, _, e0, h0, h1, h2⟩ := hv
  simpa using h1
 case c1 =>
  obtain ⟨_, _, e0, h0, h1, h2⟩ := hv
  intro j u hu
  have hj := (List.getElem?_eq_some_iff.1 hu).1
  obtain ⟨b, o, eA, h4, h5⟩ := h2 (by omega)
  simp only [Value.slice.injEq] at e0
  rw [← e0.1] at eA
  cases eA
  rw [Addr.add_lit]
  exact Lib.cell?_alloc_some _ (h5 j u hu)
 case c2 => exact entCs_one l
 case c3 => unfold maxLen; omega
 case c4 => omega
 case c5 => simp
 intro v' w1 hown hgrow hnil
 go_wp2
 go_ret
 exact ⟨v', rfl, by simpa using hown, ((Below.refl _ w).alloc (Nat.le_refl _) _).grown hgrow (by simp) (by intro k hk; simp [Value.ownBlock] at hk; omega)⟩
theorem cloneE_nil (c : Nat) (w : World) :
  Calls Tryz.prog 155 #[.slice none 0 c] w fun e w' => e = .returned (.slice none 0 0) ∧ w = w' := by
 have q22 : ∀ (w : World) (a : Option Addr) (n c n' c' : Nat), (binOp .eql 24 (.slice a n c) (.slice none n' c')).run Tryz.prog w = .ok (.bool a.isNone) w := fun w a n c n' c' => Lib.run_eql_slice_nil w _ 62 a n c n' c' Tryz.underlying24
 go_enter Tryz.func155, Tryz.ntmps155
 go_wp2_with (fail)
 go_ret
 exact ⟨rfl, rfl⟩
theorem cloneE_all (A : Option Addr) (n c : Nat) (l : List LogE) (w : World) (hv : Sl w 4 (.slice A n c) n (l.flatMap entCs)) (hl : l.length = n) (hA : A = none → n = 0) (hn : n ≤ 100000) :
  Calls Tryz.prog 155 #[.slice A n c] w fun e w' =>
   ∃ v', e = .returned v' ∧ w'.ownsRow w.heap.size 62 4 v' n (l.flatMap entCs) ∧ Below w.heap.size w w' := by
 cases A with
 | none =>
  have := hA rfl
  subst this
  have : l = [] := List.eq_nil_of_length_eq_zero hl
  subst this
  refine (cloneE_nil c w).mono ?_
  rintro e w' ⟨rfl, rfl⟩
  exact ⟨_, rfl, World.ownsRow_nil _ _ _ _, Below.refl _ _⟩
 | some A => exact cloneE_any A n c l w hv hn
theorem own_ok (A : Option Addr) (n c : Nat) (l : List LogE) (w : World) (hv : Sl w 4 (.slice A n c) n (l.flatMap entCs)) (hl : l.length = n) (hA : A = none → n = 0) (hn : n ≤ 100000) (hd : ∀ o ∈ l, o.data.length ≤ 100000) :
  Calls Tryz.prog 103 #[.slice A n c] w fun e w' => (∃ A1 c1, e = .returned (.slice A1 n c1)) ∧ Below w.heap.size w w' := by
 have HC := Hdz (cloneE_all A n c l w hv hl hA hn)
 have HL := Hdz hl
 have HD := Hdz hd
 clear hv hl hA hd
 go_enter Tryz.func103, Tryz.ntmps103
 go_wp2_with (fail)
 go_must (refine HC.out.mono ?_)
 rintro e w1 ⟨v, rfl, ho, hb1⟩
 obtain ⟨A1, c1, rfl, -⟩ := Sl.of_own ho
 have HO := Hdz ho
 have HB1 := Hdz hb1
 clear ho hb1
 go_wp2_with (fail)
 go_loopg [9] n (fun gk s9 wr => ∃ i : Nat, s9 = .int .i64 (i : Int) ∧ i + gk = n ∧ Hid (wr.ownsRow w.heap.size 62 4 (.slice A1 n c1) n (l.flatMap entCs)) ∧ Hid (Below w.heap.size w wr))
 case atStart => exact ⟨0, rfl, by omega, HO.out, HB1.out⟩
 case round =>
  clear HO HB1
  obtain ⟨i, rfl, hi, hO, hB⟩ := hrel
  obtain ⟨wo, rfl⟩ : ∃ wo, wo = wr := ⟨_, rfl⟩
  by_cases hin : i < n
  ·have h1 : (i : Int) < (n : Int) := by omega
   have h0 : (0 : Int) ≤ (i : Int) := by omega
   have hiL : i < l.length := by have := HL.out; omega
   obtain ⟨_, _, e0, _, _, hcl⟩ := Sl.of_own hO.out
   cases e0
   obtain ⟨blk, off, rfl, hbl, hcell⟩ := hcl (by omega)
   obtain ⟨o, ho⟩ := nmz (l[i])
   have hx : ∀ r u, (entCs o)[r]? = some u → wo.cell? ⟨blk, off + (i * 4 + r), none⟩ = some u := fun r u hu => by
    rw [← ho] at hu
    have hr : r < 4 := by have := (List.getElem?_eq_some_iff.1 hu).1; simpa [entCs_len] using this
    exact hcell _ _ (by rw [flat_at entCs_len l i r hiL hr]; exact hu)
   have x3 : wo.cell? ⟨blk, off + i * 4 + 3, none⟩ = some (strV o.data) := hx 3 _ rfl
   have hdl : o.data.length ≤ 100000 := by rw [← ho]; exact HD.out _ (List.getElem_mem hiL)
   have HCl := Hdz (clone_any ⟨o.data.toArray⟩ wo (by show o.data.length ≤ _; omega))
   have hw : IntKind.i64.wrap ((i : Int) + 1) = (i : Int) + 1 := IntWalk.i64_in _ (by omega)
   clear hx hcell hcl ho hiL hdl
   go_wp2_with (fail)
   go_must (refine HCl.out.mono ?_)
   rintro e w2 ⟨rfl, hb2⟩
   have hO2 := own_below hO.out hb2
   have x4 : w2.cell? ⟨blk, off + i * 4 + 3, none⟩ = some (strV o.data) := (hb2.cell (p := ⟨blk, off + i * 4 + 3, none⟩) hbl).trans x3
   have zf : w2.frozen? ⟨blk, off + i * 4 + 3, none⟩ = false := by
    obtain ⟨_, ⟨e, _⟩ | ⟨g, cap, cur, e, hgb, hh, _⟩⟩ := hO2
    ·cases e
    ·cases e
     simp [World.frozen?, hh]
   have HO2 := Hdz hO2
   have HB2 := Hdz (hB.out.trans (hb2.mono hB.out.size))
   have HId := Hdz (setCell_id x4)
   clear hO2 hb2
   go_wp2_with (fail)
   go_roundg (gk - 1)
   case measure => omega
   case rel => exact ⟨i + 1, by simp, by omega, (by show World.ownsRow _ _ _ _ _ _ _; rw [HId.out]; exact HO2.out), (by show Below _ _ _; rw [HId.out]; exact HB2.out)⟩
  ·have h1 : ¬ (i : Int) < (n : Int) := by omega
   go_wp2_with (fail)
   go_ret
   exact ⟨⟨_, _, rfl⟩, hB.out⟩
def FollowT : Int → Int → List LogE → Prop
 | _, _, [] => True
 | i, u, o :: l => o.idx = i + 1 ∧ u ≤ o.term ∧ FollowT o.idx o.term l
theorem follow_ok (i0 u0 : Int) (A : Option Addr) (n c : Nat) (l : List LogE) (w : World) (hv : Sl w 4 (.slice A n c) n (l.flatMap entCs)) (hl : l.length = n) (hn : n ≤ 100000) (hi0 : 0 ≤ i0) (hbd : ∀ o ∈ l, o.idx ≤ 99999999) (hf : FollowT i0 u0 l) :
  Calls Tryz.prog 102 #[.int .i64 i0, .int .i64 u0, .slice A n c] w fun e w' => e = .returned (.bool true) ∧ Below w.heap.size w w' := by
 have HV := Hdz hv
 have HL := Hdz hl
 have HF := Hdz (Anz hi0 hf)
 have HBd := Hdz hbd
 clear hv hl hf hi0 hbd
 go_enter Tryz.func102, Tryz.ntmps102
 go_wp2_with (fail)
 go_loopg [0, 1, 11] n (fun gk s0 s1 s11 wr => ∃ (k : Nat) (a b : Int), s0 = .int .i64 a ∧ s1 = .int .i64 b ∧ s11 = .int .i64 (k : Int) ∧ k + gk = n ∧ Hid (0 ≤ a ∧ FollowT a b (l.drop k)) ∧ Hid (Below w.heap.size w wr))
 case atStart => exact ⟨0, i0, u0, rfl, rfl, rfl, by omega, HF.out, Below.refl _ _⟩
 case round =>
  obtain ⟨k, a, b, rfl, rfl, rfl, hk, hf, hB⟩ := hrel
  obtain ⟨wo, rfl⟩ : ∃ wo, wo = wr := ⟨_, rfl⟩
  by_cases hin : k < n
  ·have h1 : (k : Int) < (n : Int) := by omega
   have h0 : (0 : Int) ≤ (k : Int) := by omega
   have hiL : k < l.length := by have := HL.out; omega
   obtain ⟨_, _, e0, _, _, hcl⟩ := HV.out.below hB.out
   cases e0
   obtain ⟨blk, off, rfl, hbl, hcell⟩ := hcl (by omega)
   have hfd := hf.out
   rw [List.drop_eq_getElem_cons hiL] at hfd
   obtain ⟨o, ho⟩ := nmz (l[k])
   rw [ho] at hfd
   obtain ⟨ha0, hf1, hf2, hf3⟩ := hfd
   have hbo : o.idx ≤ 99999999 := by rw [← ho]; exact HBd.out _ (List.getElem_mem hiL)
   have hx : ∀ r u, (entCs o)[r]? = some u → wo.cell? ⟨blk, off + (k * 4 + r), none⟩ = some u := fun r u hu => by
    rw [← ho] at hu
    have hr : r < 4 := by have := (List.getElem?_eq_some_iff.1 hu).1; simpa [entCs_len] using this
    exact hcell _ _ (by rw [flat_at entCs_len l k r hiL hr]; exact hu)
   have x0 : wo.cell? ⟨blk, off + k * 4, none⟩ = some (.int .i64 o.idx) := hx 0 _ rfl
   have x1 : wo.cell? ⟨blk, off + k * 4 + 1, none⟩ = some (.int .i64 o.term) := hx 1 _ rfl
   have x2 : wo.cell? ⟨blk, off + k * 4 + 2, none⟩ = some (.int .i64 o.kind) := hx 2 _ rfl
   have x3 : wo.cell? ⟨blk, off + k * 4 + 3, none⟩ = some (strV o.data) := hx 3 _ rfl
   obtain ⟨j, hj⟩ := nmz (o.idx)
   obtain ⟨t, ht⟩ : ∃ j, o.term = j := ⟨_, rfl⟩
   rw [hj] at x0 hf1 hf3 hbo
   rw [ht] at x1 hf2 hf3
   have hwa : IntKind.i64.wrap (a + 1) = j := by rw [IntWalk.i64_in _ (by omega)]; omega
   have hne : (j != j) = false := by simp
   have hlt : ¬ t < b := by omega
   have hw : IntKind.i64.wrap ((k : Int) + 1) = (k : Int) + 1 := IntWalk.i64_in _ (by omega)
   have bz : Blk (wo.alloc (.cells #[.int .i64 j, .int .i64 t, .int .i64 o.kind, strV o.data] 62)) wo.heap.size 62 #[.int .i64 j, .int .i64 t, .int .i64 o.kind, strV o.data] := Blk.new _ _ _
   have y0 := bz.cell 0
   have y1 := bz.cell 1
   have HB2 : Hid (Below w.heap.size w (wo.alloc (.cells #[.int .i64 j, .int .i64 t, .int .i64 o.kind, strV o.data] 62))) := hB.out.alloc hB.out.size _
   have HN : Hid (0 ≤ j ∧ FollowT j t (l.drop (k + 1))) := ⟨by omega, hf3⟩
   clear hx hcell hcl hbl ho hj ht hf3 ha0 bz hf1 hbo
   go_wp2_with (fail)
   refine wRz ?_
   try simp only [lAz]
   refine tA 0 ?_; try simp only [lAz]
   refine tA 2 ?_; try simp only [lAz]
   refine rA 1 (v := ?_) (hy := ?hy) ?_; case hy => (intro w hE; have q0 := hE.cell y0; go_simp; try with_reducible rfl)
   try simp only [lAz]
   refine rA 3 (v := ?_) (hy := ?hy) ?_; case hy => (intro w hE; have q0 := hE.cell y1; go_simp; try with_reducible rfl)
   try simp only [lAz]
   refine rZz 4 fun K hK => ?_; go_simp; apply hK; clear hK K
   refine rZz 5 fun K hK => ?_; go_simp; apply hK; clear hK K
   refine wDz ?_
   go_wp2_with (fail)
   go_roundg (gk - 1)
   case measure => omega
   case rel => exact ⟨k + 1, j, t, rfl, rfl, by simp, by omega, HN.out, HB2.out.drew⟩
  ·have h1 : ¬ (k : Int) < (n : Int) := by omega
   go_wp2_with (fail)
   go_ret
   exact ⟨rfl, hB.out⟩
theorem rlogNew_ok (i0 u0 : Int) (A : Option Addr) (n c : Nat) (l : List LogE) (w : World) (hv : Sl w 4 (.slice A n c) n (l.flatMap entCs)) (hl : l.length = n) (hA : A = none → n = 0) (hn : n ≤ 100000) (hi0 : 0 ≤ i0) (hu0 : 0 ≤ u0) (hbd : ∀ o ∈ l, o.idx ≤ 99999999) (hd : ∀ o ∈ l, o.data.length ≤ 100000) (hf : FollowT i0 u0 l) :
  Calls Tryz.prog 61 #[.int .i64 i0, .int .i64 u0, .slice A n c] w fun e w' => (∃ u, e = .returned (.tuple #[u, .int .i64 0])) ∧ Below w.heap.size w w' := by
 have HF := Hdz (follow_ok i0 u0 A n c l w hv hl hn hi0 hbd hf)
 have HO := Hdz fun W (hb : Below w.heap.size w W) => own_ok A n c l W (hv.below hb) hl hA hn hd
 have d1 : ¬ i0 < 0 := by omega
 have d2 : ¬ u0 < 0 := by omega
 clear hv hl hA hbd hd hf hi0 hu0
 go_enter Tryz.func61, Tryz.ntmps61
 go_wp2_with (fail)
 go_must (refine HF.out.mono ?_)
 rintro e w1 ⟨rfl, hb1⟩
 have HB1 := Hdz hb1
 clear hb1
 go_wp2_with (fail)
 go_must (refine (HO.out _ HB1.out).mono ?_)
 rintro e w2 ⟨⟨A2, c2, rfl⟩, hb2⟩
 have HB2 := Hdz (HB1.out.trans (hb2.mono HB1.out.size))
 clear hb2
 go_wp2_with (fail)
 go_ret2
 exact ⟨⟨_, rfl⟩, HB2.out.alloc HB2.out.size _⟩
end Go.Ev
