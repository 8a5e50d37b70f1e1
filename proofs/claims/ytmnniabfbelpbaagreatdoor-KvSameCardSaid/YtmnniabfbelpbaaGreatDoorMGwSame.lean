/-
  Texts of this claim.
-/
import Derived.Test.YtmnniabfbelpbaaGreatDoorMGwKops
set_option linter.unusedVariables false
set_option linter.unusedSimpArgs false
namespace Go.Ev
open Go.Proofs Go.RowKit
section
variable {D : DB} {F : Nat → Prop} {bb q n : Nat} {l : List (Nat × Ses)} {W W' : World}
theorem Sn.rangeD (h : Sn D F bb q n l W) (hq : q ≤ 20000) (hl : D.2.length ≤ 100000) (lo hi : Bytes) (mx : Int) :
  Calls Tryz.prog 10 #[ptrV bb, strV dataK, strV lo, strV hi, .int .i64 mx] W (RangePost W.heap.size (rangeP lo hi mx D.2) W) := by
 obtain ⟨p, rn, td, ts, h1, h2, h3, h4, h5, h6, h7⟩ := h.ex
 obtain ⟨S, root, g1, g2⟩ := h1.ex
 have := rangeB_ok dataK lo hi mx ⟨dataK, td⟩ g1 (getB_data td ts) (by omega) (by show td.n ≤ _; omega) (by show td.ps.length ≤ _; rw [h2]; exact hl) (by decide) (by decide)
 simp only [h2] at this
 exact this
theorem Sn.rangeS (h : Sn D F bb q n l W) (hq : q ≤ 20000) (hl : (ssP n l).length ≤ 100000) (lo hi : Bytes) (mx : Int) :
  Calls Tryz.prog 10 #[ptrV bb, strV sessK, strV lo, strV hi, .int .i64 mx] W (RangePost W.heap.size (rangeP lo hi mx (ssP n l)) W) := by
 obtain ⟨p, rn, td, ts, h1, h2, h3, h4, h5, h6, h7⟩ := h.ex
 obtain ⟨S, root, g1, g2⟩ := h1.ex
 have := rangeB_ok sessK lo hi mx ⟨sessK, ts⟩ g1 (getB_sess td ts) (by omega) (by show ts.n ≤ _; omega) (by show ts.ps.length ≤ _; rw [h3]; exact hl) (by decide) (by decide)
 simp only [h3] at this
 exact this
end
theorem sizK_le : ∀ (l : List KOp) (i : Nat), sizK (l.take i) ≤ sizK l
 | [], i => by simp [sizK]
 | o :: l, 0 => by simp [sizK]
 | o :: l, i + 1 => by have := sizK_le l i; simp only [List.take_succ_cons, sizK]; omega
section
variable {D : DB} {F : Nat → Prop} {bb q n i B : Nat} {l : List (Nat × Ses)} {s : KSt} {W W' W2 : World}
theorem Sn.gap (h : Sn D F bb q n l W) (hb : Below W.heap.size W W') : Sn D (fun k => F k ∧ ¬ (W.heap.size ≤ k ∧ k < W'.heap.size)) bb q n l W' :=
 h.fence (G := fun _ => False) (Keeps.of_below hb) (fun _ _ _ e => e) (fun k hk e => ⟨e, fun hh => by omega⟩) fun k hk => ⟨h.size k (Nat.le_trans hb.size hk), fun hh => by omega⟩
theorem KvAt.gap (h : KvAt F bb i B s W) (hb : Below W.heap.size W W') : KvAt (fun k => F k ∧ ¬ (W.heap.size ≤ k ∧ k < W'.heap.size)) bb i B s W' := ⟨h.1.gap hb, h.2⟩
theorem KvAt.more {C : Nat} (h : KvAt F bb i B s W) (hB : B ≤ C) : KvAt F bb i C s W := ⟨h.1, h.2.more (Nat.le_refl _) hB⟩
def ClipTo (W : World) (C E : Nat) (v : Value) (L : List Pair) : Prop := ∃ u, W.ownsRow C 64 2 u L.length (pairsCs L) ∧ v = clipV u ∧ ∀ k, u.ownBlock = some k → k < E
theorem ClipAt.to {C : Nat} {v : Value} {L : List Pair} (h : ClipAt W C v L) : ClipTo W C W.heap.size v L := by
 obtain ⟨u, h1, h2⟩ := h
 exact ⟨u, h1, h2, fun k e => (h1.lt k e).2⟩
theorem ClipTo.sl {C E : Nat} {v : Value} {L : List Pair} (h : ClipTo W C E v L) : ∃ A, v = .slice A L.length L.length ∧ (A = none → L.length = 0) ∧ Sl W 2 (.slice A L.length L.length) L.length (pairsCs L) := by
 obtain ⟨u, h1, h2, _⟩ := h
 exact ClipAt.sl ⟨u, h1, h2⟩
theorem ClipTo.below {C E : Nat} {v : Value} {L : List Pair} (h : ClipTo W C E v L) (hb : Below W.heap.size W W') : ClipTo W' C E v L := by
 obtain ⟨u, h1, h2⟩ := h
 exact ⟨u, own_below h1 hb, h2⟩
theorem ClipTo.far {C E : Nat} {v : Value} {L : List Pair} (h : ClipTo W C E v L) (hk : Keeps F W W') (hF : ∀ k, C ≤ k → k < E → ¬ F k) : ClipTo W' C E v L := by
 obtain ⟨u, h1, h2, h3⟩ := h
 exact ⟨u, own_keeps h1 hk fun k e => hF k (h1.lt k e).1 (h3 k e), h2, h3⟩
theorem KvAt.rangeD (h : KvAt F bb i B s W) (hi : i ≤ 300) (w : World) (hw : w = W) :
  Calls Tryz.prog 10 #[ptrV bb, strV dataK, strV [], strV [], .int .i64 0] w (RangePost w.heap.size s.1.2 w) := by
 subst hw
 have h1 := h.1.rangeD (by omega) (by have := h.2.len; omega) [] [] 0
 rw [rangeP_all] at h1
 exact h1
theorem ssP_le1 (n : Nat) : ∀ l : List (Nat × Ses), (ssP n l).length ≤ l.length + 1
 | [] => by unfold ssP sesP; simp; split <;> simp
 | x :: l => by rw [ssP_cons]; simpa using ssP_le1 n l
theorem KvAt.rangeS (h : KvAt F bb i B s W) (hi : i ≤ 300) (w : World) (hw : w = W) :
  Calls Tryz.prog 10 #[ptrV bb, strV sessK, strV [], strV [], .int .i64 0] w (RangePost w.heap.size (ssP s.2.1 s.2.2) w) := by
 subst hw
 have h1 := h.1.rangeS (by omega) (by have := h.1.few; have := ssP_le1 s.2.1 s.2.2; omega) [] [] 0
 rw [rangeP_all] at h1
 exact h1
end
def Two (K : Nat → Prop) (B0 a b i j C D : Nat) (s t : KSt) (W : World) : Prop := ∃ F G, KvAt F a i C s W ∧ KvAt G b j D t W ∧ (∀ k, k < W.heap.size → F k → ¬ G k) ∧ (∀ k, F k → B0 ≤ k) ∧ (∀ k, G k → B0 ≤ k) ∧ ∀ k, K k → k < W.heap.size ∧ ¬ F k ∧ ¬ G k
section
variable {K K' : Nat → Prop} {B0 a b i j C D : Nat} {s t : KSt} {W W' : World}
theorem Two.flip (h : Two K B0 a b i j C D s t W) : Two K B0 b a j i D C t s W := by
 obtain ⟨F, G, h1, h2, h3, h4, h5, h6⟩ := h
 exact ⟨G, F, h2, h1, fun k hk e e2 => h3 k hk e2 e, h5, h4, fun k hk => ⟨(h6 k hk).1, (h6 k hk).2.2, (h6 k hk).2.1⟩⟩
theorem Two.less (h : Two K B0 a b i j C D s t W) (hK : ∀ k, K' k → K k) : Two K' B0 a b i j C D s t W := by
 obtain ⟨F, G, h1, h2, h3, h4, h5, h6⟩ := h
 exact ⟨F, G, h1, h2, h3, h4, h5, fun k hk => h6 k (hK k hk)⟩
theorem Two.to {E : Nat} (h : Two K B0 a b i j C D s t W) (hC : C ≤ E) (hD : D ≤ E) : Two K B0 a b i j E E s t W := by
 obtain ⟨F, G, h1, h2, h3⟩ := h
 exact ⟨F, G, h1.more hC, h2.more hD, h3⟩
theorem Two.new (h : Two K B0 a b i j C D s t W) (hb : Below W.heap.size W W') : Two (fun k => K k ∨ (W.heap.size ≤ k ∧ k < W'.heap.size)) B0 a b i j C D s t W' := by
 obtain ⟨F, G, h1, h2, h3, h4, h5, h6⟩ := h
 have hz := hb.size
 refine ⟨_, _, h1.gap hb, h2.gap hb, fun k hk e e2 => ?_, fun k e => h4 k e.1, fun k e => h5 k e.1, fun k hk => ?_⟩
 ·by_cases hk2 : k < W.heap.size
  ·exact h3 k hk2 e.1 e2.1
  ·exact e.2 ⟨by omega, hk⟩
 ·rcases hk with hk | hk
  ·obtain ⟨q1, q2, q3⟩ := h6 k hk
   exact ⟨by omega, fun e => q2 e.1, fun e => q3 e.1⟩
  ·exact ⟨hk.2, fun e => e.2 hk, fun e => e.2 hk⟩
theorem Two.doA (h : Two K B0 a b i j C D s t W) (o : KOp) (hg : GoodK o) (hi : i ≤ 199) (hC : C + o.val.length ≤ 61000) (hB0 : B0 ≤ W.heap.size) :
  Calls Tryz.prog 9 #[ptrV a, .agg #[.int .i64 o.kind, .int .i64 o.ses, .int .i64 o.seq, strV o.key, strV o.val, strV o.old]] W fun r w' => r = .returned (.tuple #[rp (doK s o).1.1 (doK s o).1.2.1 (doK s o).1.2.2, .int .i64 0]) ∧ Two K B0 a b (i + 1) j (C + o.val.length) D (doK s o).2 t w' ∧ Below B0 W w' ∧ Keeps (fun k => ¬ K k) W w' := by
 obtain ⟨F, G, h1, h2, h3, h4, h5, h6⟩ := h
 refine (h1.do o hg (by omega) hC).mono ?_
 rintro r w' ⟨hr, h1', hk⟩
 have hz := hk.size
 refine ⟨hr, ⟨F, fun k => G k ∧ ¬ (W.heap.size ≤ k ∧ k < w'.heap.size), h1', ⟨(h2.1.fence hk (fun k hl e e2 => h3 k hl e2 e) (fun k hl e => ⟨e, fun hh => by omega⟩) fun k hl => ⟨?_, fun hh => by omega⟩), h2.2⟩, fun k hl e e2 => ?_, h4, fun k e => h5 k e.1, fun k hk => ?_⟩, hk.base hB0 h4, hk.mono fun k _ e e2 => (h6 k e2).2.1 e⟩
 ·exact h2.1.size k (by omega)
 ·by_cases hk2 : k < W.heap.size
  ·exact h3 k hk2 e e2.1
  ·exact e2.2 ⟨by omega, hl⟩
 ·obtain ⟨q1, q2, q3⟩ := h6 k hk
  exact ⟨by omega, q2, fun e => q3 e.1⟩
theorem Two.begin {F : Nat → Prop} {a b : Nat} {W W' : World} (ha : KvAt F a i C s W) (hF : ∀ k, F k → B0 ≤ k) (hb : Below W.heap.size W W') (h2 : KvAt (fun k => W.heap.size ≤ k) b j D t W') (hB0 : B0 ≤ W.heap.size) : Two (fun _ => False) B0 a b i j C D s t W' :=
 ⟨_, _, ha.gap hb, h2, fun k hk e e2 => e.2 ⟨e2, hk⟩, fun k e => hF k e.1, fun k e => Nat.le_trans hB0 e, fun _ e => e.elim⟩
end
theorem bytes_beq (a b : Bytes) : ((⟨a.toArray⟩ : ByteArray) == ⟨b.toArray⟩) = decide (a = b) := by
 show (a.toArray == b.toArray) = decide (a = b)
 rw [Bool.eq_iff_iff]
 simp
set_option maxHeartbeats 2000000 in
set_option maxRecDepth 100000 in
theorem samePairs_any (A B : Option Addr) (n m c d : Nat) (a b : List Pair) (w : World) (ha : Sl w 2 (.slice A n c) n (pairsCs a)) (hb : Sl w 2 (.slice B m d) m (pairsCs b)) (hn : n ≤ 1000000) (hm : m ≤ 1000000) :
  Calls Tryz.prog 11 #[.slice A n c, .slice B m d] w fun e w' => e = .returned (.bool (decide (a = b))) ∧ Below w.heap.size w w' := by
 have hla : n = a.length := by obtain ⟨_, _, _, _, h1, _⟩ := ha; rw [pairsCs_len] at h1; omega
 have hlb : m = b.length := by obtain ⟨_, _, _, _, h1, _⟩ := hb; rw [pairsCs_len] at h1; omega
 subst hla hlb
 by_cases hl : a.length = b.length
 ·have hl' : ((a.length : Int) != (b.length : Int)) = false := by simp [hl]
  have HL := Hdz hl
  go_enter Tryz.func11, Tryz.ntmps11
  clear hl
  go_wp2_with (fail)
  go_loopg [5] a.length (fun gk s5 wr => ∃ i : Nat, s5 = .int .i64 (i : Int) ∧ i + gk = a.length ∧ Hid (a.take i = b.take i) ∧ Below w.heap.size w wr)
  case atStart => exact ⟨0, rfl, by omega, rfl, Below.refl _ _⟩
  case round =>
   obtain ⟨i, rfl, hi, hsame, hbw⟩ := hrel
   by_cases h1 : i < a.length
   ·have h1' : (i : Int) < (a.length : Int) := by omega
    have h2 : i < b.length := by have := HL.out; omega
    have h2' : (i : Int) < (b.length : Int) := by omega
    have hi0 : (0 : Int) ≤ (i : Int) := by omega
    have hw1 : IntKind.i64.wrap ((i : Int) + 1) = (i : Int) + 1 := IntWalk.i64_in _ (by omega)
    obtain ⟨_, _, e0, _, _, hcl⟩ := ha.below hbw
    cases e0
    obtain ⟨ba, oa, rfl, _, hca⟩ := hcl (by omega)
    obtain ⟨_, _, e0, _, _, hcl2⟩ := hb.below hbw
    cases e0
    obtain ⟨bb, ob, rfl, _, hcb⟩ := hcl2 (by omega)
    obtain ⟨p1, p2⟩ := pairsCs_at a i h1
    obtain ⟨p3, p4⟩ := pairsCs_at b i h2
    have x1 : wr.cell? ⟨ba, oa + i * 2, none⟩ = _ := hca _ _ p1
    have x2 : wr.cell? ⟨ba, oa + i * 2 + 1, none⟩ = _ := hca _ _ p2
    have x3 : wr.cell? ⟨bb, ob + i * 2, none⟩ = _ := hcb _ _ p3
    have x4 : wr.cell? ⟨bb, ob + i * 2 + 1, none⟩ = _ := hcb _ _ p4
    have HSt : Hid (a[i] = b[i] → a.take (i + 1) = b.take (i + 1)) := fun e => by
     rw [List.take_succ_eq_append_getElem h1, List.take_succ_eq_append_getElem h2, hsame.out, e]
    have HNe : Hid (a[i] ≠ b[i] → decide (a = b) = false) := fun e => by
     refine decide_eq_false fun e2 => e ?_
     subst e2; rfl
    clear p1 p2 p3 p4 hca hcb hcl hcl2 ha hb
    generalize a[i] = qa at *
    generalize b[i] = qb at *
    obtain ⟨k1, v1⟩ := qa
    obtain ⟨k2, v2⟩ := qb
    have hk := bytes_beq k1 k2
    have hv := bytes_beq v1 v2
    by_cases he : k1 = k2 ∧ v1 = v2
    ·obtain ⟨rfl, rfl⟩ := he
     clear hk hv
     go_wp2_with (fail)
     refine wRz ?_
     try simp only [lAz]
     refine tA 0 ?_; try simp only [lAz]
     refine tA 1 ?_; try simp only [lAz]
     refine tA 2 ?_; try simp only [lAz]
     refine tA 4 ?_; try simp only [lAz]
     refine tA 5 ?_; try simp only [lAz]
     refine tA 6 ?_; try simp only [lAz]
     refine rA 3 (v := ?_) (hy := ?hy) ?_; case hy => (intro w hE; have q0 := hE.cell x1; have q1 := hE.cell x2; go_simp; try with_reducible rfl)
     try simp only [lAz]
     refine rA 7 (v := ?_) (hy := ?hy) ?_; case hy => (intro w hE; have q0 := hE.cell x3; have q1 := hE.cell x4; go_simp; try with_reducible rfl)
     try simp only [lAz]
     refine rZz 8 fun K hK => ?_; go_simp; apply hK; clear hK K
     refine rZz 9 fun K hK => ?_; go_simp; apply hK; clear hK K
     refine wDz ?_
     go_wp2_with (fail)
     go_roundg (gk - 1)
     case measure => omega
     case rel => exact ⟨i + 1, by simp, by omega, HSt.out (by first | rfl | trivial), hbw.drew⟩
    ·have HF : Hid (decide (a = b) = false) := HNe.out fun e => he (by simpa using e)
     by_cases hkk : k1 = k2
     ·have hvv : ¬ v1 = v2 := fun e => he ⟨hkk, e⟩
      subst hkk
      rw [decide_eq_false hvv] at hv
      clear hk he
      go_wp2_with (fail)
      refine wRz ?_
      try simp only [lAz]
      refine tA 0 ?_; try simp only [lAz]
      refine tA 1 ?_; try simp only [lAz]
      refine tA 2 ?_; try simp only [lAz]
      refine tA 4 ?_; try simp only [lAz]
      refine tA 5 ?_; try simp only [lAz]
      refine tA 6 ?_; try simp only [lAz]
      refine rA 3 (v := ?_) (hy := ?hy) ?_; case hy => (intro w hE; have q0 := hE.cell x1; have q1 := hE.cell x2; go_simp; try with_reducible rfl)
      try simp only [lAz]
      refine rA 7 (v := ?_) (hy := ?hy) ?_; case hy => (intro w hE; have q0 := hE.cell x3; have q1 := hE.cell x4; go_simp; try with_reducible rfl)
      try simp only [lAz]
      refine rZz 8 fun K hK => ?_; go_simp; apply hK; clear hK K
      refine rZz 9 fun K hK => ?_; go_simp; apply hK; clear hK K
      refine wDz ?_
      go_wp2_with (fail)
      go_ret
      exact ⟨by rw [HF.out] <;> rfl, hbw.drew⟩
     ·rw [decide_eq_false hkk] at hk
      clear he
      go_wp2_with (fail)
      refine wRz ?_
      try simp only [lAz]
      refine tA 0 ?_; try simp only [lAz]
      refine tA 1 ?_; try simp only [lAz]
      refine tA 2 ?_; try simp only [lAz]
      refine tA 4 ?_; try simp only [lAz]
      refine tA 5 ?_; try simp only [lAz]
      refine tA 6 ?_; try simp only [lAz]
      refine rA 3 (v := ?_) (hy := ?hy) ?_; case hy => (intro w hE; have q0 := hE.cell x1; have q1 := hE.cell x2; go_simp; try with_reducible rfl)
      try simp only [lAz]
      refine rA 7 (v := ?_) (hy := ?hy) ?_; case hy => (intro w hE; have q0 := hE.cell x3; have q1 := hE.cell x4; go_simp; try with_reducible rfl)
      try simp only [lAz]
      refine rZz 8 fun K hK => ?_; go_simp; apply hK; clear hK K
      refine rZz 9 fun K hK => ?_; go_simp; apply hK; clear hK K
      refine wDz ?_
      go_wp2_with (fail)
      go_ret
      exact ⟨by rw [HF.out] <;> rfl, hbw.drew⟩
   ·have h1' : ¬ (i : Int) < (a.length : Int) := by omega
    have HE : Hid (decide (a = b) = true) := by
     have hii : i = a.length := by omega
     have h3 := hsame.out
     have h4 := HL.out
     rw [hii, List.take_length, h4, List.take_length] at h3
     exact decide_eq_true h3
    clear ha hb hsame
    go_wp2_with (fail)
    go_ret
    exact ⟨by rw [HE.out] <;> rfl, hbw⟩
 ·have hl' : ((a.length : Int) != (b.length : Int)) = true := by
   simp only [bne_iff_ne, ne_eq]
   omega
  have HE : Hid (decide (a = b) = false) := decide_eq_false fun e => hl (by rw [e])
  clear hl ha hb
  go_enter Tryz.func11, Tryz.ntmps11
  go_wp2_with (fail)
  go_ret
  exact ⟨by rw [HE.out] <;> rfl, Below.refl _ _⟩
end Go.Ev
