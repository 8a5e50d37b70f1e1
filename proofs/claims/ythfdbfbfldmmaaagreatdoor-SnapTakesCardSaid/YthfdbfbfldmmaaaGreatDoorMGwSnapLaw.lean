/-
  The law arboretumlaw22.SnapTakes, walked.
-/
import Derived.Test.YthfdbfbfldmmaaaGreatDoorMGvAppendE
import Derived.Test.YthfdbfbfldmmaaaGreatDoorMGwSnapOpen
import Derived.Deep.DeepMust
set_option linter.unusedVariables false
set_option linter.unusedSimpArgs false
set_option linter.unusedVariables false
set_option linter.unusedSimpArgs false
namespace Go.Ev
open Go.Proofs Go.RowKit
def RoundI (w W : World) (b rb g i : Nat) : Prop :=
  Below w.heap.size w W ∧ ∃ (s : RcM) (L : List Pair) (mem : Value) (ch : Option Nat) (pv mem2 pv2 bp bw : Value) (ms ws : List Value) (ls : List (List Pair)),
    SnI W w.heap.size b rb g s s i mem ch pv mem2 pv2 bp bw ms ws ls ∧ s.xs = pairsCs L ∧ s.n = L.length ∧ L.length ≤ 60 * i ∧ ∀ (j : Nat) (l : List Pair), ls[j]? = some l → l.length ≤ 9000
theorem blk_at {w : World} {T : TypeId} {cs : Array Value} {k : Nat} (h : w.heap.size = k) : Blk (w.alloc (.cells cs T)) k T cs := h ▸ Blk.new w T cs
set_option maxHeartbeats 16000000 in
set_option maxRecDepth 100000 in
theorem takes_walk (hAl : ∀ W, Calls Tryz.prog 4 #[] W (TrueB W)) (zero : Bool) (A : Option Addr) (n c : Nat) (xs : List MsgR) (w : World) (h : MsgsAt w (.slice A n c) xs) (hxn : xs.length = n) :
    Calls Tryz.prog 3 #[.bool zero, .slice A n c] w (TrueB w) := by
  have HAl := Lib.hid hAl
  have H := Lib.hid h
  have Hxn := Lib.hid hxn
  clear hAl h hxn
  by_cases hn : 60 < n
  · have hn' : (60 : Int) < (n : Int) := by omega
    go_enter Tryz.func3, Tryz.ntmps3
    go_wp2_with (fail)
    go_must (refine (HAl.out _).mono ?_)
    rintro e w1 ⟨rfl, hb1⟩
    go_wp2_with (fail)
    go_ret
    exact ⟨rfl, hb1⟩
  have hn' : ¬ (60 : Int) < (n : Int) := by omega
  go_enter Tryz.func3, Tryz.ntmps3
  go_wp2_with (fail)
  go_must (refine (begin_ok _).mono ?_)
  rintro e w1 ⟨rfl, rfl⟩
  cases zero with
  | false =>
    go_wp2_with (fail)
    have h0 : RoundI w (((w.alloc (.cells (rcvCs false 0 0 0 (.slice none 0 0) false none (.slice none 0 0)) 33)).alloc (.cells #[.bool false, .int .i64 0, .int .i64 0, .int .i64 0, .slice none 0 0, .slice none 0 0, .bool false] 30)).alloc (.cells #[.slice none 0 0, .slice none 0 0, .slice none 0 0, .slice none 0 0, .slice none 0 0, .slice none 0 0, .slice none 0 0, .slice none 0 0, .slice none 0 0, .slice none 0 0, .slice none 0 0, .slice none 0 0, .slice none 0 0, .slice none 0 0, .slice none 0 0, .slice none 0 0, .slice none 0 0, .slice none 0 0, .slice none 0 0, .slice none 0 0, .slice none 0 0, .slice none 0 0] 47)) (w.heap.size) (w.heap.size + 1) (w.heap.size + 1 + 1) 0 := ⟨(bel_alloc (bel_alloc (bel_alloc (Below.refl w.heap.size w) _) _) _), _, [], _, _, _, _, _, _, _, _, _, _, SnI.start (((Blk.new w _ _).alloc _).alloc _) (((blk_at (by simp)).alloc _)) (blk_at (by simp)) (Nat.le_refl _) (by omega) (by omega), rfl, rfl, Nat.zero_le _, (fun j l h => by simp at h)⟩
    revert h0
    generalize (((w.alloc (.cells (rcvCs false 0 0 0 (.slice none 0 0) false none (.slice none 0 0)) 33)).alloc (.cells #[.bool false, .int .i64 0, .int .i64 0, .int .i64 0, .slice none 0 0, .slice none 0 0, .bool false] 30)).alloc (.cells #[.slice none 0 0, .slice none 0 0, .slice none 0 0, .slice none 0 0, .slice none 0 0, .slice none 0 0, .slice none 0 0, .slice none 0 0, .slice none 0 0, .slice none 0 0, .slice none 0 0, .slice none 0 0, .slice none 0 0, .slice none 0 0, .slice none 0 0, .slice none 0 0, .slice none 0 0, .slice none 0 0, .slice none 0 0, .slice none 0 0, .slice none 0 0, .slice none 0 0] 47)) = W0
    generalize w.heap.size + 1 + 1 = g
    generalize w.heap.size + 1 = rb
    generalize w.heap.size = b
    intro h0
    go_loopg [8] n (fun gk s8 wr => ∃ i : Nat, s8 = .int .i64 (i : Int) ∧ i + gk = n ∧ Hid (RoundI w wr b rb g i))
    case atStart => exact ⟨0, rfl, by omega, h0⟩
    case round =>
     clear h0
     obtain ⟨i, rfl, hi, hR⟩ := hrel
     by_cases h1 : i < n
     case pos =>
      have h1' : (i : Int) < (n : Int) := by omega
      have hi0 : (0 : Int) ≤ (i : Int) := by omega
      have hw1 : IntKind.i64.wrap ((i : Int) + 1) = (i : Int) + 1 := IntWalk.i64_in _ (by omega)
      have him : i < xs.length := by rw [Hxn.out]; exact h1
      obtain ⟨hbw, s, L, mem, ch, pv, mem2, pv2, bp, bw, ms, ws, ls, hI, hxs, hsn, hL, hls⟩ := hR.out
      clear hR
      obtain ⟨bl, ol, hA, hbl, hcell⟩ := H.out.cell i him
      have hok := H.out.2.2 xs[i] (List.getElem_mem him)
      generalize xs[i] = x at hcell hok
      rw [hok.cs] at hcell
      subst hA
      have hblr : bl < wr.heap.size := Nat.lt_of_lt_of_le hbl hbw.size
      have Y0 : w.cell? ⟨bl, ol + i * 14, none⟩ = some (.int .i64 x.m.kind) := by have := hcell 0 _ rfl; simp only [← Nat.add_assoc, Nat.add_zero] at this; exact this
      have Y1 : w.cell? ⟨bl, ol + i * 14 + 1, none⟩ = some (.int .i64 x.m.fr) := by have := hcell 1 _ rfl; simp only [← Nat.add_assoc, Nat.add_zero] at this; exact this
      have Y2 : w.cell? ⟨bl, ol + i * 14 + 2, none⟩ = some (.int .i64 x.ti) := by have := hcell 2 _ rfl; simp only [← Nat.add_assoc, Nat.add_zero] at this; exact this
      have Y3 : w.cell? ⟨bl, ol + i * 14 + 3, none⟩ = some (.int .i64 x.tr) := by have := hcell 3 _ rfl; simp only [← Nat.add_assoc, Nat.add_zero] at this; exact this
      have Y4 : w.cell? ⟨bl, ol + i * 14 + 4, none⟩ = some (.int .i64 x.m.ix) := by have := hcell 4 _ rfl; simp only [← Nat.add_assoc, Nat.add_zero] at this; exact this
      have Y5 : w.cell? ⟨bl, ol + i * 14 + 5, none⟩ = some (.int .i64 x.m.tm) := by have := hcell 5 _ rfl; simp only [← Nat.add_assoc, Nat.add_zero] at this; exact this
      have Y6 : w.cell? ⟨bl, ol + i * 14 + 6, none⟩ = some (.int .i64 x.cm) := by have := hcell 6 _ rfl; simp only [← Nat.add_assoc, Nat.add_zero] at this; exact this
      have Y7 : w.cell? ⟨bl, ol + i * 14 + 7, none⟩ = some (.int .i64 x.rd) := by have := hcell 7 _ rfl; simp only [← Nat.add_assoc, Nat.add_zero] at this; exact this
      have Y8 : w.cell? ⟨bl, ol + i * 14 + 8, none⟩ = some (.bool x.okb) := by have := hcell 8 _ rfl; simp only [← Nat.add_assoc, Nat.add_zero] at this; exact this
      have Y9 : w.cell? ⟨bl, ol + i * 14 + 9, none⟩ = some (.bool x.m.done) := by have := hcell 9 _ rfl; simp only [← Nat.add_assoc, Nat.add_zero] at this; exact this
      have Y10 : w.cell? ⟨bl, ol + i * 14 + 10, none⟩ = some (.slice x.Ae x.ke x.ce) := by have := hcell 10 _ rfl; simp only [← Nat.add_assoc, Nat.add_zero] at this; exact this
      have Y11 : w.cell? ⟨bl, ol + i * 14 + 11, none⟩ = some (.slice x.A2 x.k2 x.c2) := by have := hcell 11 _ rfl; simp only [← Nat.add_assoc, Nat.add_zero] at this; exact this
      have Y12 : w.cell? ⟨bl, ol + i * 14 + 12, none⟩ = some (.int .i64 x.m.off) := by have := hcell 12 _ rfl; simp only [← Nat.add_assoc, Nat.add_zero] at this; exact this
      have Y13 : w.cell? ⟨bl, ol + i * 14 + 13, none⟩ = some (.slice x.A x.k x.c) := by have := hcell 13 _ rfl; simp only [← Nat.add_assoc, Nat.add_zero] at this; exact this
      have YY := Lib.hid (And.intro Y0 (And.intro Y1 (And.intro Y2 (And.intro Y3 (And.intro Y4 (And.intro Y5 (And.intro Y6 (And.intro Y7 (And.intro Y8 (And.intro Y9 (And.intro Y10 (And.intro Y11 (And.intro Y12 Y13)))))))))))))
      have y0 : wr.cell? ⟨bl, ol + i * 14, none⟩ = some (.int .i64 x.m.kind) := (hbw.cell (p := ⟨bl, _, none⟩) hbl).trans YY.out.1
      have y1 : wr.cell? ⟨bl, ol + i * 14 + 1, none⟩ = some (.int .i64 x.m.fr) := (hbw.cell (p := ⟨bl, _, none⟩) hbl).trans YY.out.2.1
      have y2 : wr.cell? ⟨bl, ol + i * 14 + 2, none⟩ = some (.int .i64 x.ti) := (hbw.cell (p := ⟨bl, _, none⟩) hbl).trans YY.out.2.2.1
      have y3 : wr.cell? ⟨bl, ol + i * 14 + 3, none⟩ = some (.int .i64 x.tr) := (hbw.cell (p := ⟨bl, _, none⟩) hbl).trans YY.out.2.2.2.1
      have y4 : wr.cell? ⟨bl, ol + i * 14 + 4, none⟩ = some (.int .i64 x.m.ix) := (hbw.cell (p := ⟨bl, _, none⟩) hbl).trans YY.out.2.2.2.2.1
      have y5 : wr.cell? ⟨bl, ol + i * 14 + 5, none⟩ = some (.int .i64 x.m.tm) := (hbw.cell (p := ⟨bl, _, none⟩) hbl).trans YY.out.2.2.2.2.2.1
      have y6 : wr.cell? ⟨bl, ol + i * 14 + 6, none⟩ = some (.int .i64 x.cm) := (hbw.cell (p := ⟨bl, _, none⟩) hbl).trans YY.out.2.2.2.2.2.2.1
      have y7 : wr.cell? ⟨bl, ol + i * 14 + 7, none⟩ = some (.int .i64 x.rd) := (hbw.cell (p := ⟨bl, _, none⟩) hbl).trans YY.out.2.2.2.2.2.2.2.1
      have y8 : wr.cell? ⟨bl, ol + i * 14 + 8, none⟩ = some (.bool x.okb) := (hbw.cell (p := ⟨bl, _, none⟩) hbl).trans YY.out.2.2.2.2.2.2.2.2.1
      have y9 : wr.cell? ⟨bl, ol + i * 14 + 9, none⟩ = some (.bool x.m.done) := (hbw.cell (p := ⟨bl, _, none⟩) hbl).trans YY.out.2.2.2.2.2.2.2.2.2.1
      have y10 : wr.cell? ⟨bl, ol + i * 14 + 10, none⟩ = some (.slice x.Ae x.ke x.ce) := (hbw.cell (p := ⟨bl, _, none⟩) hbl).trans YY.out.2.2.2.2.2.2.2.2.2.2.1
      have y11 : wr.cell? ⟨bl, ol + i * 14 + 11, none⟩ = some (.slice x.A2 x.k2 x.c2) := (hbw.cell (p := ⟨bl, _, none⟩) hbl).trans YY.out.2.2.2.2.2.2.2.2.2.2.2.1
      have y12 : wr.cell? ⟨bl, ol + i * 14 + 12, none⟩ = some (.int .i64 x.m.off) := (hbw.cell (p := ⟨bl, _, none⟩) hbl).trans YY.out.2.2.2.2.2.2.2.2.2.2.2.2.1
      have y13 : wr.cell? ⟨bl, ol + i * 14 + 13, none⟩ = some (.slice x.A x.k x.c) := (hbw.cell (p := ⟨bl, _, none⟩) hbl).trans YY.out.2.2.2.2.2.2.2.2.2.2.2.2.2
      have hSm := smallMsgB_any (.int .i64 x.m.kind) (.int .i64 x.m.fr) (.int .i64 x.ti) (.int .i64 x.tr) (.int .i64 x.m.ix) (.int .i64 x.m.tm) (.int .i64 x.cm) (.int .i64 x.rd) (.bool x.okb) (.bool x.m.done) (.int .i64 x.m.off) x.Ae x.A2 x.A x.ke x.ce x.k2 x.c2 x.k x.c wr (hok.te.below hbw) (hok.t0.below hbw) (hok.t1.below hbw) hok.lke hok.lk2 hok.lk
      have HSm := Lib.hid hSm
      have HOK := Lib.hid hok
      have HI := Lib.hid hI
      have HW := Lib.hid hbw
      have HL := Lib.hid (And.intro hxs (And.intro hsn (And.intro hL hls)))
      clear hSm hok hI hbw hcell hxs hsn hL hls him Y0 Y1 Y2 Y3 Y4 Y5 Y6 Y7 Y8 Y9 Y10 Y11 Y12 Y13
      go_wp2_with (fail)
      go_must (refine HSm.out.mono ?_)
      rintro e w1 ⟨⟨r, rfl, hr⟩, hb1⟩
      cases r with
      | false =>
       clear hr
       go_wp2_with (fail)
       go_ret
       exact ⟨rfl, bel_then HW.out hb1⟩
      | true =>
       obtain ⟨hk, hk2⟩ := hr rfl
       clear hr
       have HB1 := Lib.hid hb1
       have hw1b : Below w.heap.size w w1 := bel_then HW.out hb1
       have hbl1 : bl < w1.heap.size := Nat.lt_of_lt_of_le hbl hw1b.size
       have y0 : w1.cell? ⟨bl, ol + i * 14, none⟩ = some (.int .i64 x.m.kind) := (hw1b.cell (p := ⟨bl, _, none⟩) hbl).trans YY.out.1
       have y1 : w1.cell? ⟨bl, ol + i * 14 + 1, none⟩ = some (.int .i64 x.m.fr) := (hw1b.cell (p := ⟨bl, _, none⟩) hbl).trans YY.out.2.1
       have y2 : w1.cell? ⟨bl, ol + i * 14 + 2, none⟩ = some (.int .i64 x.ti) := (hw1b.cell (p := ⟨bl, _, none⟩) hbl).trans YY.out.2.2.1
       have y3 : w1.cell? ⟨bl, ol + i * 14 + 3, none⟩ = some (.int .i64 x.tr) := (hw1b.cell (p := ⟨bl, _, none⟩) hbl).trans YY.out.2.2.2.1
       have y4 : w1.cell? ⟨bl, ol + i * 14 + 4, none⟩ = some (.int .i64 x.m.ix) := (hw1b.cell (p := ⟨bl, _, none⟩) hbl).trans YY.out.2.2.2.2.1
       have y5 : w1.cell? ⟨bl, ol + i * 14 + 5, none⟩ = some (.int .i64 x.m.tm) := (hw1b.cell (p := ⟨bl, _, none⟩) hbl).trans YY.out.2.2.2.2.2.1
       have y6 : w1.cell? ⟨bl, ol + i * 14 + 6, none⟩ = some (.int .i64 x.cm) := (hw1b.cell (p := ⟨bl, _, none⟩) hbl).trans YY.out.2.2.2.2.2.2.1
       have y7 : w1.cell? ⟨bl, ol + i * 14 + 7, none⟩ = some (.int .i64 x.rd) := (hw1b.cell (p := ⟨bl, _, none⟩) hbl).trans YY.out.2.2.2.2.2.2.2.1
       have y8 : w1.cell? ⟨bl, ol + i * 14 + 8, none⟩ = some (.bool x.okb) := (hw1b.cell (p := ⟨bl, _, none⟩) hbl).trans YY.out.2.2.2.2.2.2.2.2.1
       have y9 : w1.cell? ⟨bl, ol + i * 14 + 9, none⟩ = some (.bool x.m.done) := (hw1b.cell (p := ⟨bl, _, none⟩) hbl).trans YY.out.2.2.2.2.2.2.2.2.2.1
       have y10 : w1.cell? ⟨bl, ol + i * 14 + 10, none⟩ = some (.slice x.Ae x.ke x.ce) := (hw1b.cell (p := ⟨bl, _, none⟩) hbl).trans YY.out.2.2.2.2.2.2.2.2.2.2.1
       have y11 : w1.cell? ⟨bl, ol + i * 14 + 11, none⟩ = some (.slice x.A2 x.k2 x.c2) := (hw1b.cell (p := ⟨bl, _, none⟩) hbl).trans YY.out.2.2.2.2.2.2.2.2.2.2.2.1
       have y12 : w1.cell? ⟨bl, ol + i * 14 + 12, none⟩ = some (.int .i64 x.m.off) := (hw1b.cell (p := ⟨bl, _, none⟩) hbl).trans YY.out.2.2.2.2.2.2.2.2.2.2.2.2.1
       have y13 : w1.cell? ⟨bl, ol + i * 14 + 13, none⟩ = some (.slice x.A x.k x.c) := (hw1b.cell (p := ⟨bl, _, none⟩) hbl).trans YY.out.2.2.2.2.2.2.2.2.2.2.2.2.2
       have hwab : Below w.heap.size w (w1.alloc (.cells #[.int .i64 x.m.kind, .int .i64 x.m.fr, .int .i64 x.ti, .int .i64 x.tr, .int .i64 x.m.ix, .int .i64 x.m.tm, .int .i64 x.cm, .int .i64 x.rd, .bool x.okb, .bool x.m.done, .slice x.Ae x.ke x.ce, .slice x.A2 x.k2 x.c2, .int .i64 x.m.off, .slice x.A x.k x.c] 51)) := bel_alloc hw1b _
       have HLent := Lib.hid (lent_ok x.A x.k x.c x.qs (w1.alloc (.cells #[.int .i64 x.m.kind, .int .i64 x.m.fr, .int .i64 x.ti, .int .i64 x.tr, .int .i64 x.m.ix, .int .i64 x.m.tm, .int .i64 x.cm, .int .i64 x.rd, .bool x.okb, .bool x.m.done, .slice x.Ae x.ke x.ce, .slice x.A2 x.k2 x.c2, .int .i64 x.m.off, .slice x.A x.k x.c] 51)) (HOK.out.sp.below hwab) HOK.out.np (by omega))
       have HWA := Lib.hid hwab
       clear hb1 hw1b hwab
       go_wp2_with (fail)
       go_must (refine HLent.out.mono ?_)
       rintro e w2 ⟨gl, cl, rfl, hol, hb2⟩
       have hblkM : Blk w2 w1.heap.size 51 #[.int .i64 x.m.kind, .int .i64 x.m.fr, .int .i64 x.ti, .int .i64 x.tr, .int .i64 x.m.ix, .int .i64 x.m.tm, .int .i64 x.cm, .int .i64 x.rd, .bool x.okb, .bool x.m.done, .slice x.Ae x.ke x.ce, .slice x.A2 x.k2 x.c2, .int .i64 x.m.off, .slice x.A x.k x.c] := (Blk.new w1 _ _).below' hb2
       have hltM := hblkM.lt
       have fM : w2.frozen? ⟨w1.heap.size, 13, none⟩ = false := hblkM.frozen 13
       have z0 : w2.cell? ⟨w1.heap.size, 0, none⟩ = some (.int .i64 x.m.kind) := hblkM.cell 0
       have z1 : w2.cell? ⟨w1.heap.size, 1, none⟩ = some (.int .i64 x.m.fr) := hblkM.cell 1
       have z2 : w2.cell? ⟨w1.heap.size, 2, none⟩ = some (.int .i64 x.ti) := hblkM.cell 2
       have z3 : w2.cell? ⟨w1.heap.size, 3, none⟩ = some (.int .i64 x.tr) := hblkM.cell 3
       have z4 : w2.cell? ⟨w1.heap.size, 4, none⟩ = some (.int .i64 x.m.ix) := hblkM.cell 4
       have z5 : w2.cell? ⟨w1.heap.size, 5, none⟩ = some (.int .i64 x.m.tm) := hblkM.cell 5
       have z6 : w2.cell? ⟨w1.heap.size, 6, none⟩ = some (.int .i64 x.cm) := hblkM.cell 6
       have z7 : w2.cell? ⟨w1.heap.size, 7, none⟩ = some (.int .i64 x.rd) := hblkM.cell 7
       have z8 : w2.cell? ⟨w1.heap.size, 8, none⟩ = some (.bool x.okb) := hblkM.cell 8
       have z9 : w2.cell? ⟨w1.heap.size, 9, none⟩ = some (.bool x.m.done) := hblkM.cell 9
       have z10 : w2.cell? ⟨w1.heap.size, 10, none⟩ = some (.slice x.Ae x.ke x.ce) := hblkM.cell 10
       have z11 : w2.cell? ⟨w1.heap.size, 11, none⟩ = some (.slice x.A2 x.k2 x.c2) := hblkM.cell 11
       have z12 : w2.cell? ⟨w1.heap.size, 12, none⟩ = some (.int .i64 x.m.off) := hblkM.cell 12
       have z13 : w2.cell? ⟨w1.heap.size, 13, none⟩ = some (.slice x.A x.k x.c) := hblkM.cell 13
       have hgl : w1.heap.size < gl := by
        have := (hol.lt gl rfl).1
        simp only [World.alloc, Array.size_push] at this
        omega
       have hz1 := HB1.out.size
       have hzr := HW.out.size
       have hb3 : Below wr.heap.size wr (w2.setCell ⟨w1.heap.size, 13, none⟩ (.slice (some ⟨gl, 0, none⟩) x.k cl)) := ((HB1.out.alloc hz1 _).trans (hb2.mono (by simp only [World.alloc, Array.size_push]; omega))).setCell (p := ⟨w1.heap.size, 13, none⟩) hz1 _
       have hwb3 : Below w.heap.size w (w2.setCell ⟨w1.heap.size, 13, none⟩ (.slice (some ⟨gl, 0, none⟩) x.k cl)) := HW.out.trans (hb3.mono hzr)
       have hI3 := HI.out.below hb3
       have hblk3 : Blk (w2.setCell ⟨w1.heap.size, 13, none⟩ (.slice (some ⟨gl, 0, none⟩) x.k cl)) w1.heap.size 51 #[.int .i64 x.m.kind, .int .i64 x.m.fr, .int .i64 x.ti, .int .i64 x.tr, .int .i64 x.m.ix, .int .i64 x.m.tm, .int .i64 x.cm, .int .i64 x.rd, .bool x.okb, .bool x.m.done, .slice x.Ae x.ke x.ce, .slice x.A2 x.k2 x.c2, .int .i64 x.m.off, .slice (some ⟨gl, 0, none⟩) x.k cl] := hblkM.set 13 _
       have hol3 : (w2.setCell ⟨w1.heap.size, 13, none⟩ (.slice (some ⟨gl, 0, none⟩) x.k cl)).ownsRow (w1.alloc (.cells #[.int .i64 x.m.kind, .int .i64 x.m.fr, .int .i64 x.ti, .int .i64 x.tr, .int .i64 x.m.ix, .int .i64 x.m.tm, .int .i64 x.cm, .int .i64 x.rd, .bool x.okb, .bool x.m.done, .slice x.Ae x.ke x.ce, .slice x.A2 x.k2 x.c2, .int .i64 x.m.off, .slice x.A x.k x.c] 51)).heap.size 59 2 (.slice (some ⟨gl, 0, none⟩) (x.k + 1) cl) (x.k + 1) (pairsCs (x.qs ++ [(markW, [])])) := own_keeps hol (Keeps.setCell (p := ⟨w1.heap.size, 13, none⟩) (Keeps.refl (fun q => q = w1.heap.size) w2) (fun _ => rfl) _) (fun q e e2 => by
        have e : gl = q := by simpa [Value.ownBlock] using e
        omega)
       have hol3 := own_low hol3 (Nat.zero_le _)
       have H3 := Lib.hid (And.intro hb3 (And.intro hwb3 (And.intro hblk3 (And.intro hol3 hI3))))
       clear hb3 hwb3 hblk3 hol3 hI3 hol hb2 hblkM
       go_wp2_with (fail)
       obtain ⟨hb3, hwb3, hblk3, hol3, hI3⟩ := H3.out
       clear H3 fM hltM z0 z1 z2 z3 z4 z5 z6 z7 z8 z9 z10 z11 z12 z13
       generalize w2.setCell ⟨w1.heap.size, 13, none⟩ (.slice (some ⟨gl, 0, none⟩) x.k cl) = w3 at hb3 hwb3 hblk3 hol3 hI3 ⊢
       obtain ⟨m', hm'⟩ : ∃ m' : MsgV, m' = ⟨x.m.kind, x.m.fr, .int .i64 x.ti, .int .i64 x.tr, x.m.ix, x.m.tm, .int .i64 x.cm, .int .i64 x.rd, .bool x.okb, x.m.done, .slice x.Ae x.ke x.ce, .slice x.A2 x.k2 x.c2, x.m.off, .slice (some ⟨gl, 0, none⟩) x.k cl⟩ := ⟨_, rfl⟩
       have hcs' : m'.cs = #[.int .i64 x.m.kind, .int .i64 x.m.fr, .int .i64 x.ti, .int .i64 x.tr, .int .i64 x.m.ix, .int .i64 x.m.tm, .int .i64 x.cm, .int .i64 x.rd, .bool x.okb, .bool x.m.done, .slice x.Ae x.ke x.ce, .slice x.A2 x.k2 x.c2, .int .i64 x.m.off, .slice (some ⟨gl, 0, none⟩) x.k cl] := by rw [hm']; rfl
       have hlen := HOK.out.len
       have hcl1 : x.k + 1 ≤ cl := by
        rcases hol3.2 with ⟨e, _⟩ | ⟨_, _, _, e, _, _, h, _⟩
        · cases e
        · cases e; exact h
       have hmk : MsgCloses w w3 x := ⟨hwb3, HOK.out.sm, HOK.out.one⟩
       have hT := take_ok w.heap.size b s mem ch pv m' (some ⟨gl, 0, none⟩) x.k cl (pairsCs x.qs) w3 hI3.rcv hwb3.size (by rw [hm']) (by have := HL.out.2.1; have := HL.out.2.2.1; omega) (by omega) (pairsCs_one _)
        (fun W hk' => by rw [hm']; exact hmk.clone hk2 hI3.rcv.low hk')
        (fun W hk' => lent_clone hol3 hlen hk (fun e => by have := (hI3.rcv.lt gl e).2; have := (HI.out.rcv.lt gl e).2; omega) hk')
       rw [hcs'] at hT
       have HT := Lib.hid hT
       have HM' := Lib.hid hm'
       have H3 := Lib.hid (And.intro hwb3 (And.intro hblk3 (And.intro hol3 (And.intro hI3 (And.intro hlen hb3)))))
       clear hT hm' hcs' hmk hb3 hwb3 hblk3 hol3 hI3 hlen
       go_must (refine HT.out.mono ?_)
       rintro e w4 ⟨rfl, hk4, mem4, ch4, pv4, hr4, hch4, hpv4⟩
       obtain ⟨hwb3, hblk3, hol3, hI3, hlen, hb3⟩ := H3.out
       clear H3 HT
       have hI4 := hI3.took hk4 hr4 hpv4
       have hzr3 := hb3.size
       have hnew : ∀ q, wr.heap.size ≤ q → ¬ RcvS b ch pv q := fun q hq hs => by have := (HI.out.rcv.lt q hs).2; omega
       have hwb4 : Below w.heap.size w w4 := hwb3.trans (hk4.below hwb3.size fun q hq hs => by have := (hI3.rcv.lt q hs).1; omega)
       have hblk4 := hblk3.keeps hk4 (hnew _ hz1)
       have hol4 := own_keeps hol3 hk4 (fun q e => hnew q (by
        have e : gl = q := by simpa [Value.ownBlock] using e
        omega))
       obtain ⟨L', hx', hn4, hL'⟩ := take_list (s := s) (L := L) m' x.k x.qs HL.out.1 HL.out.2.1 hlen hk
       obtain ⟨mM, hmM⟩ : ∃ mM : MsgV, mM = ⟨x.m.kind, x.m.fr, .int .i64 x.ti, .int .i64 x.tr, x.m.ix, x.m.tm, .int .i64 x.cm, .int .i64 x.rd, .bool x.okb, x.m.done, .slice x.Ae x.ke x.ce, .slice x.A2 x.k2 x.c2, x.m.off, .slice x.A x.k x.c⟩ := ⟨_, rfl⟩
       have hcsM : mM.cs = #[.int .i64 x.m.kind, .int .i64 x.m.fr, .int .i64 x.ti, .int .i64 x.tr, .int .i64 x.m.ix, .int .i64 x.m.tm, .int .i64 x.cm, .int .i64 x.rd, .bool x.okb, .bool x.m.done, .slice x.Ae x.ke x.ce, .slice x.A2 x.k2 x.c2, .int .i64 x.m.off, .slice x.A x.k x.c] := by rw [hmM]; rfl
       have hTM : s.take mM x.k (pairsCs x.qs) = s.take m' x.k (pairsCs x.qs) := by rw [HM'.out, hmM]; rfl
       have hR := refTake_ok w.heap.size rb s mem2 pv2 mM x.A x.A2 x.k x.c x.k2 x.c2 (pairsCs x.qs) x.zs w4 hI4.ref hwb4.size (by rw [hmM]) (by rw [hmM]) (by have := HL.out.2.1; have := HL.out.2.2.1; omega) (by omega) (by omega) (by rw [HL.out.1]; exact pairsCs_one _) (pairsCs_one _) HOK.out.one (HOK.out.sp.below hwb4) HOK.out.np (HOK.out.sm.below hwb4) HOK.out.nm
       rw [hcsM, hTM] at hR
       have HR := Lib.hid hR
       have hdone := Lib.hid (And.intro hx' (And.intro hn4 hL'))
       generalize s.take m' x.k (pairsCs x.qs) = s' at hI4 HR hdone hr4 ⊢
       have hpl4 : pv4.ownBlock ≠ some gl := fun e => (hpv4 gl e).elim (fun e => by have := (HI.out.rcv.row.lt gl e).2; omega) (fun e => by have := (hol3.lt gl rfl).2; omega)
       have H4 := Lib.hid (And.intro hwb4 (And.intro hblk4 (And.intro hol4 (And.intro hI4 (And.intro hlen (And.intro hpl4 (And.intro (hol4.lt gl rfl).2 hz1)))))))
       have y0 : w4.cell? ⟨bl, ol + i * 14, none⟩ = some (.int .i64 x.m.kind) := (hwb4.cell (p := ⟨bl, _, none⟩) hbl).trans YY.out.1
       have y1 : w4.cell? ⟨bl, ol + i * 14 + 1, none⟩ = some (.int .i64 x.m.fr) := (hwb4.cell (p := ⟨bl, _, none⟩) hbl).trans YY.out.2.1
       have y2 : w4.cell? ⟨bl, ol + i * 14 + 2, none⟩ = some (.int .i64 x.ti) := (hwb4.cell (p := ⟨bl, _, none⟩) hbl).trans YY.out.2.2.1
       have y3 : w4.cell? ⟨bl, ol + i * 14 + 3, none⟩ = some (.int .i64 x.tr) := (hwb4.cell (p := ⟨bl, _, none⟩) hbl).trans YY.out.2.2.2.1
       have y4 : w4.cell? ⟨bl, ol + i * 14 + 4, none⟩ = some (.int .i64 x.m.ix) := (hwb4.cell (p := ⟨bl, _, none⟩) hbl).trans YY.out.2.2.2.2.1
       have y5 : w4.cell? ⟨bl, ol + i * 14 + 5, none⟩ = some (.int .i64 x.m.tm) := (hwb4.cell (p := ⟨bl, _, none⟩) hbl).trans YY.out.2.2.2.2.2.1
       have y6 : w4.cell? ⟨bl, ol + i * 14 + 6, none⟩ = some (.int .i64 x.cm) := (hwb4.cell (p := ⟨bl, _, none⟩) hbl).trans YY.out.2.2.2.2.2.2.1
       have y7 : w4.cell? ⟨bl, ol + i * 14 + 7, none⟩ = some (.int .i64 x.rd) := (hwb4.cell (p := ⟨bl, _, none⟩) hbl).trans YY.out.2.2.2.2.2.2.2.1
       have y8 : w4.cell? ⟨bl, ol + i * 14 + 8, none⟩ = some (.bool x.okb) := (hwb4.cell (p := ⟨bl, _, none⟩) hbl).trans YY.out.2.2.2.2.2.2.2.2.1
       have y9 : w4.cell? ⟨bl, ol + i * 14 + 9, none⟩ = some (.bool x.m.done) := (hwb4.cell (p := ⟨bl, _, none⟩) hbl).trans YY.out.2.2.2.2.2.2.2.2.2.1
       have y10 : w4.cell? ⟨bl, ol + i * 14 + 10, none⟩ = some (.slice x.Ae x.ke x.ce) := (hwb4.cell (p := ⟨bl, _, none⟩) hbl).trans YY.out.2.2.2.2.2.2.2.2.2.2.1
       have y11 : w4.cell? ⟨bl, ol + i * 14 + 11, none⟩ = some (.slice x.A2 x.k2 x.c2) := (hwb4.cell (p := ⟨bl, _, none⟩) hbl).trans YY.out.2.2.2.2.2.2.2.2.2.2.2.1
       have y12 : w4.cell? ⟨bl, ol + i * 14 + 12, none⟩ = some (.int .i64 x.m.off) := (hwb4.cell (p := ⟨bl, _, none⟩) hbl).trans YY.out.2.2.2.2.2.2.2.2.2.2.2.2.1
       have y13 : w4.cell? ⟨bl, ol + i * 14 + 13, none⟩ = some (.slice x.A x.k x.c) := (hwb4.cell (p := ⟨bl, _, none⟩) hbl).trans YY.out.2.2.2.2.2.2.2.2.2.2.2.2.2
       clear hwb3 hblk3 hol3 hI3 hlen hb3 hI4 hwb4 hblk4 hol4 hx' hn4 hL' hmM hcsM hTM hR hr4 hch4 hpv4 hk4 hnew
       go_wp2_with (fail)
       go_must (refine HR.out.mono ?_)
       rintro e w5 ⟨rfl, hk5, mem5, pv5, hr5, hp5⟩
       obtain ⟨hwb4, hblk4, hol4, hI4, hlen, hpl4, hgl4, -⟩ := H4.out
       clear H4 HR y0 y1 y2 y3 y4 y5 y6 y7 y8 y9 y10 y11 y12 y13
       have hI5 := hI4.took2 hk5 hr5 hp5
       have hrbl : rb < wr.heap.size := HI.out.ref.blk.lt
       have hwb5 : Below w.heap.size w w5 := hwb4.trans (hk5.below hwb4.size fun q hq e => by have := hI4.ref.low; omega)
       have hblk5 := hblk4.keeps hk5 (by omega)
       have hol5 := own_keeps hol4 hk5 (fun q e e2 => by
        have e : gl = q := by simpa [Value.ownBlock] using e
        omega)
       have hpl5 : pv5.ownBlock ≠ some gl := fun e => (hp5 gl e).elim (fun e => by have := (HI.out.ref.row.lt gl e).2; omega) (fun e => by omega)
       obtain ⟨A5, c5, hv5, -⟩ := Sl.of_own hI5.ref.row
       subst hv5
       have HP := Lib.hid (rcvPairs_ok w.heap.size b s' mem4 ch4 pv4 L' w5 hI5.rcv hdone.out.1 (by have := hdone.out.2.1; have := hdone.out.2.2; have := HL.out.2.2.1; omega))
       have H5 := Lib.hid (And.intro hwb5 (And.intro hblk5 (And.intro hol5 (And.intro hI5 (And.intro hlen (And.intro hpl4 hpl5))))))
       have hgl5 := (hol5.lt gl rfl).2
       clear hwb4 hblk4 hol4 hI4 hlen hpl4 hgl4 hk5 hr5 hp5 hI5 hwb5 hblk5 hol5 hpl5
       go_wp2_with (fail)
       go_must (refine HP.out.mono ?_)
       rintro e w6 ⟨v6, rfl, ho6, hb6⟩
       obtain ⟨hwb5, hblk5, hol5, hI5, hlen, hpl4, hpl5⟩ := H5.out
       clear H5 HP
       obtain ⟨A6, c6, rfl, -⟩ := Sl.of_own ho6
       have hI6 := hI5.below hb6
       have hL60 : L'.length ≤ 60 * i + 60 := by have := hdone.out.2.2; have := HL.out.2.2.1; omega
       have hmsl : ms.length = i := hI6.lm
       have hwsl : ws.length = i := by rw [hI6.rw'.1, ← hI6.rm.1, hmsl]
       have hK6 := bookPairs_any A6 L'.length c6 L' hI6.bk (Nat.le_trans hwb5.size hb6.size) (by omega) (by omega) (Sl.of_own ho6) (own_none0 ho6) (by omega) (fun bb o e hs => own_far ho6 hI6.bk bb (by rw [e]; rfl) hs)
       have HK6 := Lib.hid hK6
       have H6 := Lib.hid (And.intro hwb5 (And.intro hblk5 (And.intro hol5 (And.intro hI5 (And.intro hlen (And.intro hpl4 (And.intro hpl5 (And.intro ho6 (And.intro hb6 hI6)))))))))
       clear hwb5 hblk5 hol5 hI5 hlen hpl4 hpl5 ho6 hb6 hI6 hK6 hmsl hwsl
       go_wp2_with (fail)
       go_must (refine HK6.out.mono ?_)
       rintro e w7 hp7
       obtain ⟨hwb5, hblk5, hol5, hI5, hlen, hpl4, hpl5, ho6, hb6, hI6⟩ := H6.out
       clear H6 HK6
       obtain ⟨rfl, bp7, bw7, ws7, hI7, hk7, hm7, hs7⟩ := hI6.kept (n := 0) (W0 := w5) hb6.size ho6 hwb5.size (fun q hq => hq.elim (fun h => (hI5.rcv.lt q h).2) fun h => h.elim (fun h => (hI5.ref.row.lt q h).2) fun h => h.elim (fun h => (hI5.rm.ltP q h).2) fun h => (hI5.rw'.ltP q h).2) hp7
       have hbold : ∀ q, BookS g bp bw q → q < wr.heap.size := fun q h => (HI.out.bk.lt q h).2
       have hwb7 : Below w.heap.size w w7 := (hwb5.trans (hb6.mono hwb5.size)).trans (hk7.below (Nat.le_trans hwb5.size hb6.size) fun q hq h => by have := (hI6.bk.lt q h).1; omega)
       have hblk7 := (hblk5.below' hb6).keeps hk7 (fun h => by have := hbold _ h; omega)
       have hol7 := own_keeps (own_below hol5 hb6) hk7 (fun q e h => by
        have e : gl = q := by simpa [Value.ownBlock] using e
        have := hbold _ h
        omega)
       have ho7 := own_keeps ho6 hk7 (fun q e h => own_far ho6 hI6.bk q e h)
       have hgm : ¬ OfP (ms ++ [.slice A6 L'.length c6]) gl := fun h => (hm7 gl h).elim (fun h => by have := (HI.out.rm.ltP gl h).2; omega) (fun h => by omega)
       have hgw : ¬ OfP ws7 gl := fun h => (hs7 gl h).elim (fun h => by have := (HI.out.rw'.ltP gl h).2; omega) (fun h => by have := hb6.size; omega)
       have hrow7 := hI7.ref.row
       rw [hdone.out.1] at hrow7
       have HSame := Lib.hid (fun W (hb : Below w7.heap.size w7 W) => samePairs_any A6 A5 L'.length s'.n c6 c5 L' L' W ((Sl.of_own ho7).below hb) ((Sl.of_own hrow7).below hb) (by omega) (by have := hdone.out.2.1; omega))
       have HStay := Lib.hid (fun W (hb : Below w7.heap.size w7 W) => stays_ok gl cl x.k x.A x.c x.qs 0 W (own_low (own_below hol7 hb) (Nat.zero_le _)) ((HOK.out.sp.below hwb7).below hb) (by omega))
       have z13 : w7.cell? ⟨w1.heap.size, 13, none⟩ = some (.slice (some ⟨gl, 0, none⟩) x.k cl) := hblk7.cell 13
       have x5 : w7.cell? ⟨rb, 5, none⟩ = some (.slice A5 s'.n c5) := hI7.ref.blk.cell 5
       have y13 : w7.cell? ⟨bl, ol + i * 14 + 13, none⟩ = some (.slice x.A x.k x.c) := (hwb7.cell (p := ⟨bl, _, none⟩) hbl).trans YY.out.2.2.2.2.2.2.2.2.2.2.2.2.2
       have hq1 : w1.heap.size < w7.heap.size := hblk7.lt
       have hq2 : rb < w7.heap.size := hI7.ref.blk.lt
       have hq3 : bl < w7.heap.size := Nat.lt_of_lt_of_le hbl hwb7.size
       obtain ⟨S, hS⟩ : ∃ S : World → Prop, S = fun W => W.cell? ⟨w1.heap.size, 13, none⟩ = some (.slice (some ⟨gl, 0, none⟩) x.k cl) ∧ W.cell? ⟨rb, 5, none⟩ = some (.slice A5 s'.n c5) ∧ W.cell? ⟨bl, ol + i * 14 + 13, none⟩ = some (.slice x.A x.k x.c) := ⟨_, rfl⟩
       have hSB : ∀ W, Below w7.heap.size w7 W → S W := fun W hb => by
        rw [hS]
        exact ⟨(hb.cell (p := ⟨_, 13, none⟩) hq1).trans z13, (hb.cell (p := ⟨_, 5, none⟩) hq2).trans x5, (hb.cell (p := ⟨bl, _, none⟩) hq3).trans y13⟩
       have HSB := Lib.hid hSB
       have HSe := Lib.hid hS
       have HS := hSB _ (Below.refl _ w7).drew
       have H7 := Lib.hid (And.intro hwb7 (And.intro hblk7 (And.intro hol7 (And.intro hI7 (And.intro hpl4 (And.intro hpl5 (And.intro hgm hgw)))))))
       clear hwb5 hblk5 hol5 hI5 hlen hpl4 hpl5 ho6 hb6 hI6 hp7 hI7 hk7 hm7 hs7 hbold hwb7 hblk7 hol7 ho7 hgm hgw hrow7 z13 x5 y13 hS hSB
       go_wp2_with (fail)
       refine wp_region_held (S := S) (by kernel_rfl) ?_
       change wpAnyH _ _ _ _ _ _ _ _ (World.drew _)
       try simp only [Act.put, lT, l0, lS]
       refine tkH 0 (v := ?_) rfl (by kernel_rfl) (fun _ _ _ h => h) (by rfl) HS ?hy ?_
       case hy => intro w hE; rw [HSe.out] at hE; go_simp; try with_reducible rfl
       try simp only [Act.put, lT, l0, lS]
       refine tkH 1 (v := ?_) rfl (by kernel_rfl) (fun _ _ _ h => h) (by rfl) HS ?hy ?_
       case hy => intro w hE; rw [HSe.out] at hE; go_simp; try with_reducible rfl
       try simp only [Act.put, lT, l0, lS]
       refine tkH 2 (v := ?_) rfl (by kernel_rfl) (fun _ _ _ h => h) (by rfl) HS ?hy ?_
       case hy => intro w hE; rw [HSe.out] at hE; go_simp; try with_reducible rfl
       try simp only [Act.put, lT, l0, lS]
       refine tkH 3 (v := ?_) rfl (by kernel_rfl) (fun _ _ _ h => h) (by rfl) HS ?hy ?_
       case hy => intro w hE; rw [HSe.out] at hE; go_simp; try with_reducible rfl
       try simp only [Act.put, lT, l0, lS]
       refine tkH 4 (v := ?_) rfl (by kernel_rfl) (fun _ _ _ h => h) (by rfl) HS ?hy ?_
       case hy => intro w hE; rw [HSe.out] at hE; go_simp; try with_reducible rfl
       try simp only [Act.put, lT, l0, lS]
       refine tkH 5 (v := ?_) rfl (by kernel_rfl) (fun _ _ _ h => h) (by rfl) HS ?hy ?_
       case hy => intro w hE; rw [HSe.out] at hE; go_simp; try with_reducible rfl
       try simp only [Act.put, lT, l0, lS]
       refine tkH 6 (v := ?_) rfl (by kernel_rfl) (fun _ _ _ h => h) (by rfl) HS ?hy ?_
       case hy => intro w hE; rw [HSe.out] at hE; go_simp; try with_reducible rfl
       try simp only [Act.put, lT, l0, lS]
       refine tkH 7 (v := ?_) rfl (by kernel_rfl) (fun _ _ _ h => h) (by rfl) HS ?hy ?_
       case hy => intro w hE; rw [HSe.out] at hE; go_simp; try with_reducible rfl
       try simp only [Act.put, lT, l0, lS]
       refine tkH 8 (v := ?_) rfl (by kernel_rfl) (fun _ _ _ h => h) (by rfl) HS ?hy ?_
       case hy => intro w hE; rw [HSe.out] at hE; go_simp; try with_reducible rfl
       try simp only [Act.put, lT, l0, lS]
       refine tkH 9 (v := ?_) rfl (by kernel_rfl) (fun _ _ _ h => h) (by rfl) HS ?hy ?_
       case hy => intro w hE; rw [HSe.out] at hE; go_simp; try with_reducible rfl
       try simp only [Act.put, lT, l0, lS]
       refine tkH 10 (v := ?_) rfl (by kernel_rfl) (fun _ _ _ h => h) (by rfl) HS ?hy ?_
       case hy => intro w hE; rw [HSe.out] at hE; go_simp; try with_reducible rfl
       try simp only [Act.put, lT, l0, lS]
       refine tkH 11 (v := ?_) rfl (by kernel_rfl) (fun _ _ _ h => h) (by rfl) HS ?hy ?_
       case hy => intro w hE; rw [HSe.out] at hE; go_simp; try with_reducible rfl
       try simp only [Act.put, lT, l0, lS]
       refine tkH 12 (v := ?_) rfl (by kernel_rfl) (fun _ _ _ h => h) (by rfl) HS ?hy ?_
       case hy => intro w hE; rw [HSe.out] at hE; go_simp; try with_reducible rfl
       try simp only [Act.put, lT, l0, lS]
       refine tkH 13 (v := ?_) rfl (by kernel_rfl) (fun _ _ _ h => h) (by rfl) HS ?hy ?_
       case hy => intro w hE; rw [HSe.out] at hE; go_simp; try with_reducible rfl
       try simp only [Act.put, lT, l0, lS]
       refine rdH 14 (by kernel_rfl) rfl (fun K hK => ?_)
       go_simp
       go_must (refine (HSame.out _ (Below.refl _ w7).drew).mono ?_)
       rintro e w8 ⟨rfl, hb8⟩
       have hbw8 : Below w7.heap.size w7 w8 := ((Below.refl _ w7).drew).trans hb8
       have HS := HSB.out _ hbw8
       go_simp
       refine hK _ _ HS ?_
       clear hK K
       try simp only [Act.put, lT, l0, lS]
       refine tkH 15 (v := ?_) rfl (by kernel_rfl) (fun _ _ _ h => h) (by rfl) HS ?hy ?_
       case hy => intro w hE; rw [HSe.out] at hE; go_simp; try with_reducible rfl
       try simp only [Act.put, lT, l0, lS]
       refine tkH 16 (v := ?_) rfl (by kernel_rfl) (fun _ _ _ h => h) (by rfl) HS ?hy ?_
       case hy => intro w hE; rw [HSe.out] at hE; go_simp; try with_reducible rfl
       try simp only [Act.put, lT, l0, lS]
       refine tkH 17 (v := ?_) rfl (by kernel_rfl) (fun _ _ _ h => h) (by rfl) HS ?hy ?_
       case hy => intro w hE; rw [HSe.out] at hE; go_simp; try with_reducible rfl
       try simp only [Act.put, lT, l0, lS]
       refine tkH 18 (v := ?_) rfl (by kernel_rfl) (fun _ _ _ h => h) (by rfl) HS ?hy ?_
       case hy => intro w hE; rw [HSe.out] at hE; go_simp; try with_reducible rfl
       try simp only [Act.put, lT, l0, lS]
       refine tkH 19 (v := ?_) rfl (by kernel_rfl) (fun _ _ _ h => h) (by rfl) HS ?hy ?_
       case hy => intro w hE; rw [HSe.out] at hE; go_simp; try with_reducible rfl
       try simp only [Act.put, lT, l0, lS]
       refine tkH 20 (v := ?_) rfl (by kernel_rfl) (fun _ _ _ h => h) (by rfl) HS ?hy ?_
       case hy => intro w hE; rw [HSe.out] at hE; go_simp; try with_reducible rfl
       try simp only [Act.put, lT, l0, lS]
       refine tkH 21 (v := ?_) rfl (by kernel_rfl) (fun _ _ _ h => h) (by rfl) HS ?hy ?_
       case hy => intro w hE; rw [HSe.out] at hE; go_simp; try with_reducible rfl
       try simp only [Act.put, lT, l0, lS]
       refine tkH 22 (v := ?_) rfl (by kernel_rfl) (fun _ _ _ h => h) (by rfl) HS ?hy ?_
       case hy => intro w hE; rw [HSe.out] at hE; go_simp; try with_reducible rfl
       try simp only [Act.put, lT, l0, lS]
       refine tkH 23 (v := ?_) rfl (by kernel_rfl) (fun _ _ _ h => h) (by rfl) HS ?hy ?_
       case hy => intro w hE; rw [HSe.out] at hE; go_simp; try with_reducible rfl
       try simp only [Act.put, lT, l0, lS]
       refine tkH 24 (v := ?_) rfl (by kernel_rfl) (fun _ _ _ h => h) (by rfl) HS ?hy ?_
       case hy => intro w hE; rw [HSe.out] at hE; go_simp; try with_reducible rfl
       try simp only [Act.put, lT, l0, lS]
       refine rdH 25 (by kernel_rfl) rfl (fun K hK => ?_)
       go_simp
       go_must (refine (HStay.out _ hbw8).mono ?_)
       rintro e w9 ⟨rfl, hb9⟩
       have hbw9 : Below w7.heap.size w7 w9 := bel_then hbw8 hb9
       have HS := HSB.out _ hbw9
       go_simp
       refine hK _ _ HS ?_
       clear hK K
       try simp only [Act.put, lT, l0, lS]
       refine tkH 26 (v := ?_) rfl (by kernel_rfl) (fun _ _ _ h => h) (by rfl) HS ?hy ?_
       case hy => intro w hE; rw [HSe.out] at hE; go_simp; try with_reducible rfl
       try simp only [Act.put, lT, l0, lS]
       refine tkH 27 (v := ?_) rfl (by kernel_rfl) (fun _ _ _ h => h) (by rfl) HS ?hy ?_
       case hy => intro w hE; rw [HSe.out] at hE; go_simp; try with_reducible rfl
       try simp only [Act.put, lT, l0, lS]
       refine wpAnyH_done (by kernel_rfl) ?_ _
       obtain ⟨hwb7, hblk7, hol7, hI7, hpl4, hpl5, hgm, hgw⟩ := H7.out
       have hI9 := hI7.below hbw9
       have hblk9 := hblk7.below' hbw9
       have hol9 := own_below hol7 hbw9
       have hwb9 := bel_then hwb7 hbw9
       have H9 := Lib.hid (And.intro hwb9 (And.intro hblk9 (And.intro hol9 (And.intro hI9 (And.intro hpl4 (And.intro hpl5 (And.intro hgm hgw)))))))
       clear H7 HS HSB HSe HSame HStay hwb7 hblk7 hol7 hI7 hpl4 hpl5 hgm hgw hI9 hblk9 hol9 hwb9 hbw9 hbw8 hb8 hb9
       go_wp2_with (fail)
       obtain ⟨gq, hgq⟩ : ∃ x, x = gk := ⟨_, rfl⟩
       subst hgq
       go_loopg [15] x.k (fun gk s15 wq => ∃ kk : Nat, s15 = .int .i64 (kk : Int) ∧ kk + gk = x.k ∧ Hid (Keeps (fun q => q = gl) w9 wq ∧ ∃ cs, wq.ownsRow 0 59 2 (.slice (some ⟨gl, 0, none⟩) (x.k + 1) cl) (x.k + 1) cs))
       case atStart => exact ⟨0, rfl, by omega, Keeps.refl _ _, _, own_low H9.out.2.2.1 (Nat.zero_le _)⟩
       case round =>
        obtain ⟨kk, rfl, hkk, hq⟩ := hrel
        obtain ⟨hkq, cs, hoq⟩ := hq.out
        have hblkq := H9.out.2.1.keeps hkq (by omega)
        have z13 : wr.cell? ⟨w1.heap.size, 13, none⟩ = some (.slice (some ⟨gl, 0, none⟩) x.k cl) := hblkq.cell 13
        have hltq := hblkq.lt
        by_cases h2 : kk < x.k
        case pos =>
         have h2' : (kk : Int) < (x.k : Int) := by omega
         have hkk0 : (0 : Int) ≤ (kk : Int) := by omega
         have hw2 : IntKind.i64.wrap ((kk : Int) + 1) = (kk : Int) + 1 := IntWalk.i64_in _ (by omega)
         have hlen : cs.length = (x.k + 1) * 2 := hoq.1
         have e0 := hoq.cells (g := gl) rfl (kk * 2) _ (List.getElem?_eq_getElem (by omega))
         rw [addr_add, Nat.zero_add] at e0
         obtain ⟨u0, d0⟩ : ∃ u0, wr.cell? ⟨gl, kk * 2, none⟩ = some u0 := ⟨_, e0⟩
         clear e0
         have f0 : wr.frozen? ⟨gl, kk * 2, none⟩ = false := hoq.frozenAt _
         obtain ⟨o0, _⟩ := hoq.stored (kk * 2) (.string ⟨#[111, 116, 104, 101, 114]⟩)
         have hk1 : Keeps (fun q => q = gl) w9 (wr.setCell ⟨gl, kk * 2, none⟩ (.string ⟨#[111, 116, 104, 101, 114]⟩)) := hkq.setCell (p := ⟨gl, kk * 2, none⟩) (fun _ => rfl) _
         have HO := Lib.hid (And.intro hk1 o0)
         have hglq := (hoq.lt gl rfl).2
         clear hkq hoq hq hblkq hk1 o0 hlen
         go_wp2_with (fail)
         go_roundg (gk - 1)
         case measure => omega
         case rel => exact ⟨kk + 1, by simp, by omega, HO.out.1, _, HO.out.2⟩
        case neg =>
         have h2' : ¬ (kk : Int) < (x.k : Int) := by omega
         obtain ⟨hwb9, hblk9, hol9, hI9, hpl4, hpl5, hgm, hgw⟩ := H9.out
         have hIq := hI9.lent hol9 rfl hpl4 hpl5 hgm hgw hkq
         have hwbq : Below w.heap.size w wr := hwb9.trans (hkq.below hwb9.size fun q hq e => by omega)
         have hlsq : ∀ (j : Nat) (l : List Pair), (ls ++ [L'])[j]? = some l → l.length ≤ 9000 := fun j l hj => by
          rw [List.getElem?_append] at hj
          split at hj
          · exact HL.out.2.2.2 j l hj
          · have hj2 : j - ls.length < 1 := (List.getElem?_eq_some_iff.1 hj).1
            rw [show j - ls.length = 0 by omega] at hj
            cases hj
            omega
         have HF : Hid (RoundI w wr b rb g (i + 1)) := ⟨hwbq, s', L', mem4, ch4, pv4, mem5, _, bp7, bw7, _, ws7, _, hIq, hdone.out.1, hdone.out.2.1, by omega, hlsq⟩
         clear hwb9 hblk9 hol9 hI9 hpl4 hpl5 hgm hgw hIq hwbq hlsq hkq hoq hq hblkq
         go_wp2_with (fail)
         go_roundg (gq - 1)
         case measure => omega
         case rel => exact ⟨i + 1, by simp, by omega, HF⟩
     case neg =>
      have h1' : ¬ (i : Int) < (n : Int) := by omega
      obtain ⟨hbw, s, L, mem, ch, pv, mem2, pv2, bp, bw, ms, ws, ls, hI, hxs, hsn, hL, hls⟩ := hR.out
      have HI := Lib.hid hI
      have HW := Lib.hid hbw
      have HLS := Lib.hid hls
      clear hR hI hbw hxs hsn hL hls
      go_wp2_with (fail)
      go_must (refine (HAl.out _).mono ?_)
      rintro e w1 ⟨rfl, hb1⟩
      have hI1 := HI.out.below hb1
      have HAp := Lib.hid (apartO_any ls hI1.bk hI1.rm (bel_then HW.out hb1).size hI1.rw'.sl hI1.ap HLS.out (by have := hI1.lm; omega))
      have HI1 := Lib.hid (And.intro hI1 (bel_then HW.out hb1))
      clear hI1 hb1
      go_wp2_with (fail)
      go_must (refine HAp.out.mono ?_)
      rintro e w2 ⟨rfl, hk2⟩
      go_wp2_with (fail)
      go_ret
      exact ⟨rfl, HI1.out.2.trans (hk2.below HI1.out.2.size fun q hq h => by have := (HI1.out.1.rm.ltP q h).1; omega)⟩
  | true =>
    go_wp2_with (fail)
    have h0 : RoundI w ((((w.alloc (.cells (rcvCs false 0 0 0 (.slice none 0 0) false none (.slice none 0 0)) 33)).alloc (.cells #[.bool false, .int .i64 0, .int .i64 0, .int .i64 0, .slice none 0 0, .slice none 0 0, .bool false] 30)).alloc (.cells #[.bool false, .int .i64 0, .int .i64 0, .int .i64 0, .slice none 0 0, .bool false, .chan none, .slice none 0 0] 33)).alloc (.cells #[.slice none 0 0, .slice none 0 0, .slice none 0 0, .slice none 0 0, .slice none 0 0, .slice none 0 0, .slice none 0 0, .slice none 0 0, .slice none 0 0, .slice none 0 0, .slice none 0 0, .slice none 0 0, .slice none 0 0, .slice none 0 0, .slice none 0 0, .slice none 0 0, .slice none 0 0, .slice none 0 0, .slice none 0 0, .slice none 0 0, .slice none 0 0, .slice none 0 0] 47)) (w.heap.size + 1 + 1) (w.heap.size + 1) (w.heap.size + 1 + 1 + 1) 0 := ⟨(bel_alloc (bel_alloc (bel_alloc (bel_alloc (Below.refl w.heap.size w) _) _) _) _), _, [], _, _, _, _, _, _, _, _, _, _, SnI.start ((blk_at (by simp)).alloc _) ((((blk_at (by simp)).alloc _).alloc _)) (blk_at (by simp)) (by omega) (by omega) (by omega), rfl, rfl, Nat.zero_le _, (fun j l h => by simp at h)⟩
    revert h0
    generalize ((((w.alloc (.cells (rcvCs false 0 0 0 (.slice none 0 0) false none (.slice none 0 0)) 33)).alloc (.cells #[.bool false, .int .i64 0, .int .i64 0, .int .i64 0, .slice none 0 0, .slice none 0 0, .bool false] 30)).alloc (.cells #[.bool false, .int .i64 0, .int .i64 0, .int .i64 0, .slice none 0 0, .bool false, .chan none, .slice none 0 0] 33)).alloc (.cells #[.slice none 0 0, .slice none 0 0, .slice none 0 0, .slice none 0 0, .slice none 0 0, .slice none 0 0, .slice none 0 0, .slice none 0 0, .slice none 0 0, .slice none 0 0, .slice none 0 0, .slice none 0 0, .slice none 0 0, .slice none 0 0, .slice none 0 0, .slice none 0 0, .slice none 0 0, .slice none 0 0, .slice none 0 0, .slice none 0 0, .slice none 0 0, .slice none 0 0] 47)) = W0
    generalize w.heap.size + 1 + 1 + 1 = g
    generalize w.heap.size + 1 + 1 = b
    generalize w.heap.size + 1 = rb
    intro h0
    go_loopg [8] n (fun gk s8 wr => ∃ i : Nat, s8 = .int .i64 (i : Int) ∧ i + gk = n ∧ Hid (RoundI w wr b rb g i))
    case atStart => exact ⟨0, rfl, by omega, h0⟩
    case round =>
     clear h0
     obtain ⟨i, rfl, hi, hR⟩ := hrel
     by_cases h1 : i < n
     case pos =>
      have h1' : (i : Int) < (n : Int) := by omega
      have hi0 : (0 : Int) ≤ (i : Int) := by omega
      have hw1 : IntKind.i64.wrap ((i : Int) + 1) = (i : Int) + 1 := IntWalk.i64_in _ (by omega)
      have him : i < xs.length := by rw [Hxn.out]; exact h1
      obtain ⟨hbw, s, L, mem, ch, pv, mem2, pv2, bp, bw, ms, ws, ls, hI, hxs, hsn, hL, hls⟩ := hR.out
      clear hR
      obtain ⟨bl, ol, hA, hbl, hcell⟩ := H.out.cell i him
      have hok := H.out.2.2 xs[i] (List.getElem_mem him)
      generalize xs[i] = x at hcell hok
      rw [hok.cs] at hcell
      subst hA
      have hblr : bl < wr.heap.size := Nat.lt_of_lt_of_le hbl hbw.size
      have Y0 : w.cell? ⟨bl, ol + i * 14, none⟩ = some (.int .i64 x.m.kind) := by have := hcell 0 _ rfl; simp only [← Nat.add_assoc, Nat.add_zero] at this; exact this
      have Y1 : w.cell? ⟨bl, ol + i * 14 + 1, none⟩ = some (.int .i64 x.m.fr) := by have := hcell 1 _ rfl; simp only [← Nat.add_assoc, Nat.add_zero] at this; exact this
      have Y2 : w.cell? ⟨bl, ol + i * 14 + 2, none⟩ = some (.int .i64 x.ti) := by have := hcell 2 _ rfl; simp only [← Nat.add_assoc, Nat.add_zero] at this; exact this
      have Y3 : w.cell? ⟨bl, ol + i * 14 + 3, none⟩ = some (.int .i64 x.tr) := by have := hcell 3 _ rfl; simp only [← Nat.add_assoc, Nat.add_zero] at this; exact this
      have Y4 : w.cell? ⟨bl, ol + i * 14 + 4, none⟩ = some (.int .i64 x.m.ix) := by have := hcell 4 _ rfl; simp only [← Nat.add_assoc, Nat.add_zero] at this; exact this
      have Y5 : w.cell? ⟨bl, ol + i * 14 + 5, none⟩ = some (.int .i64 x.m.tm) := by have := hcell 5 _ rfl; simp only [← Nat.add_assoc, Nat.add_zero] at this; exact this
      have Y6 : w.cell? ⟨bl, ol + i * 14 + 6, none⟩ = some (.int .i64 x.cm) := by have := hcell 6 _ rfl; simp only [← Nat.add_assoc, Nat.add_zero] at this; exact this
      have Y7 : w.cell? ⟨bl, ol + i * 14 + 7, none⟩ = some (.int .i64 x.rd) := by have := hcell 7 _ rfl; simp only [← Nat.add_assoc, Nat.add_zero] at this; exact this
      have Y8 : w.cell? ⟨bl, ol + i * 14 + 8, none⟩ = some (.bool x.okb) := by have := hcell 8 _ rfl; simp only [← Nat.add_assoc, Nat.add_zero] at this; exact this
      have Y9 : w.cell? ⟨bl, ol + i * 14 + 9, none⟩ = some (.bool x.m.done) := by have := hcell 9 _ rfl; simp only [← Nat.add_assoc, Nat.add_zero] at this; exact this
      have Y10 : w.cell? ⟨bl, ol + i * 14 + 10, none⟩ = some (.slice x.Ae x.ke x.ce) := by have := hcell 10 _ rfl; simp only [← Nat.add_assoc, Nat.add_zero] at this; exact this
      have Y11 : w.cell? ⟨bl, ol + i * 14 + 11, none⟩ = some (.slice x.A2 x.k2 x.c2) := by have := hcell 11 _ rfl; simp only [← Nat.add_assoc, Nat.add_zero] at this; exact this
      have Y12 : w.cell? ⟨bl, ol + i * 14 + 12, none⟩ = some (.int .i64 x.m.off) := by have := hcell 12 _ rfl; simp only [← Nat.add_assoc, Nat.add_zero] at this; exact this
      have Y13 : w.cell? ⟨bl, ol + i * 14 + 13, none⟩ = some (.slice x.A x.k x.c) := by have := hcell 13 _ rfl; simp only [← Nat.add_assoc, Nat.add_zero] at this; exact this
      have YY := Lib.hid (And.intro Y0 (And.intro Y1 (And.intro Y2 (And.intro Y3 (And.intro Y4 (And.intro Y5 (And.intro Y6 (And.intro Y7 (And.intro Y8 (And.intro Y9 (And.intro Y10 (And.intro Y11 (And.intro Y12 Y13)))))))))))))
      have y0 : wr.cell? ⟨bl, ol + i * 14, none⟩ = some (.int .i64 x.m.kind) := (hbw.cell (p := ⟨bl, _, none⟩) hbl).trans YY.out.1
      have y1 : wr.cell? ⟨bl, ol + i * 14 + 1, none⟩ = some (.int .i64 x.m.fr) := (hbw.cell (p := ⟨bl, _, none⟩) hbl).trans YY.out.2.1
      have y2 : wr.cell? ⟨bl, ol + i * 14 + 2, none⟩ = some (.int .i64 x.ti) := (hbw.cell (p := ⟨bl, _, none⟩) hbl).trans YY.out.2.2.1
      have y3 : wr.cell? ⟨bl, ol + i * 14 + 3, none⟩ = some (.int .i64 x.tr) := (hbw.cell (p := ⟨bl, _, none⟩) hbl).trans YY.out.2.2.2.1
      have y4 : wr.cell? ⟨bl, ol + i * 14 + 4, none⟩ = some (.int .i64 x.m.ix) := (hbw.cell (p := ⟨bl, _, none⟩) hbl).trans YY.out.2.2.2.2.1
      have y5 : wr.cell? ⟨bl, ol + i * 14 + 5, none⟩ = some (.int .i64 x.m.tm) := (hbw.cell (p := ⟨bl, _, none⟩) hbl).trans YY.out.2.2.2.2.2.1
      have y6 : wr.cell? ⟨bl, ol + i * 14 + 6, none⟩ = some (.int .i64 x.cm) := (hbw.cell (p := ⟨bl, _, none⟩) hbl).trans YY.out.2.2.2.2.2.2.1
      have y7 : wr.cell? ⟨bl, ol + i * 14 + 7, none⟩ = some (.int .i64 x.rd) := (hbw.cell (p := ⟨bl, _, none⟩) hbl).trans YY.out.2.2.2.2.2.2.2.1
      have y8 : wr.cell? ⟨bl, ol + i * 14 + 8, none⟩ = some (.bool x.okb) := (hbw.cell (p := ⟨bl, _, none⟩) hbl).trans YY.out.2.2.2.2.2.2.2.2.1
      have y9 : wr.cell? ⟨bl, ol + i * 14 + 9, none⟩ = some (.bool x.m.done) := (hbw.cell (p := ⟨bl, _, none⟩) hbl).trans YY.out.2.2.2.2.2.2.2.2.2.1
      have y10 : wr.cell? ⟨bl, ol + i * 14 + 10, none⟩ = some (.slice x.Ae x.ke x.ce) := (hbw.cell (p := ⟨bl, _, none⟩) hbl).trans YY.out.2.2.2.2.2.2.2.2.2.2.1
      have y11 : wr.cell? ⟨bl, ol + i * 14 + 11, none⟩ = some (.slice x.A2 x.k2 x.c2) := (hbw.cell (p := ⟨bl, _, none⟩) hbl).trans YY.out.2.2.2.2.2.2.2.2.2.2.2.1
      have y12 : wr.cell? ⟨bl, ol + i * 14 + 12, none⟩ = some (.int .i64 x.m.off) := (hbw.cell (p := ⟨bl, _, none⟩) hbl).trans YY.out.2.2.2.2.2.2.2.2.2.2.2.2.1
      have y13 : wr.cell? ⟨bl, ol + i * 14 + 13, none⟩ = some (.slice x.A x.k x.c) := (hbw.cell (p := ⟨bl, _, none⟩) hbl).trans YY.out.2.2.2.2.2.2.2.2.2.2.2.2.2
      have hSm := smallMsgB_any (.int .i64 x.m.kind) (.int .i64 x.m.fr) (.int .i64 x.ti) (.int .i64 x.tr) (.int .i64 x.m.ix) (.int .i64 x.m.tm) (.int .i64 x.cm) (.int .i64 x.rd) (.bool x.okb) (.bool x.m.done) (.int .i64 x.m.off) x.Ae x.A2 x.A x.ke x.ce x.k2 x.c2 x.k x.c wr (hok.te.below hbw) (hok.t0.below hbw) (hok.t1.below hbw) hok.lke hok.lk2 hok.lk
      have HSm := Lib.hid hSm
      have HOK := Lib.hid hok
      have HI := Lib.hid hI
      have HW := Lib.hid hbw
      have HL := Lib.hid (And.intro hxs (And.intro hsn (And.intro hL hls)))
      clear hSm hok hI hbw hcell hxs hsn hL hls him Y0 Y1 Y2 Y3 Y4 Y5 Y6 Y7 Y8 Y9 Y10 Y11 Y12 Y13
      go_wp2_with (fail)
      go_must (refine HSm.out.mono ?_)
      rintro e w1 ⟨⟨r, rfl, hr⟩, hb1⟩
      cases r with
      | false =>
       clear hr
       go_wp2_with (fail)
       go_ret
       exact ⟨rfl, bel_then HW.out hb1⟩
      | true =>
       obtain ⟨hk, hk2⟩ := hr rfl
       clear hr
       have HB1 := Lib.hid hb1
       have hw1b : Below w.heap.size w w1 := bel_then HW.out hb1
       have hbl1 : bl < w1.heap.size := Nat.lt_of_lt_of_le hbl hw1b.size
       have y0 : w1.cell? ⟨bl, ol + i * 14, none⟩ = some (.int .i64 x.m.kind) := (hw1b.cell (p := ⟨bl, _, none⟩) hbl).trans YY.out.1
       have y1 : w1.cell? ⟨bl, ol + i * 14 + 1, none⟩ = some (.int .i64 x.m.fr) := (hw1b.cell (p := ⟨bl, _, none⟩) hbl).trans YY.out.2.1
       have y2 : w1.cell? ⟨bl, ol + i * 14 + 2, none⟩ = some (.int .i64 x.ti) := (hw1b.cell (p := ⟨bl, _, none⟩) hbl).trans YY.out.2.2.1
       have y3 : w1.cell? ⟨bl, ol + i * 14 + 3, none⟩ = some (.int .i64 x.tr) := (hw1b.cell (p := ⟨bl, _, none⟩) hbl).trans YY.out.2.2.2.1
       have y4 : w1.cell? ⟨bl, ol + i * 14 + 4, none⟩ = some (.int .i64 x.m.ix) := (hw1b.cell (p := ⟨bl, _, none⟩) hbl).trans YY.out.2.2.2.2.1
       have y5 : w1.cell? ⟨bl, ol + i * 14 + 5, none⟩ = some (.int .i64 x.m.tm) := (hw1b.cell (p := ⟨bl, _, none⟩) hbl).trans YY.out.2.2.2.2.2.1
       have y6 : w1.cell? ⟨bl, ol + i * 14 + 6, none⟩ = some (.int .i64 x.cm) := (hw1b.cell (p := ⟨bl, _, none⟩) hbl).trans YY.out.2.2.2.2.2.2.1
       have y7 : w1.cell? ⟨bl, ol + i * 14 + 7, none⟩ = some (.int .i64 x.rd) := (hw1b.cell (p := ⟨bl, _, none⟩) hbl).trans YY.out.2.2.2.2.2.2.2.1
       have y8 : w1.cell? ⟨bl, ol + i * 14 + 8, none⟩ = some (.bool x.okb) := (hw1b.cell (p := ⟨bl, _, none⟩) hbl).trans YY.out.2.2.2.2.2.2.2.2.1
       have y9 : w1.cell? ⟨bl, ol + i * 14 + 9, none⟩ = some (.bool x.m.done) := (hw1b.cell (p := ⟨bl, _, none⟩) hbl).trans YY.out.2.2.2.2.2.2.2.2.2.1
       have y10 : w1.cell? ⟨bl, ol + i * 14 + 10, none⟩ = some (.slice x.Ae x.ke x.ce) := (hw1b.cell (p := ⟨bl, _, none⟩) hbl).trans YY.out.2.2.2.2.2.2.2.2.2.2.1
       have y11 : w1.cell? ⟨bl, ol + i * 14 + 11, none⟩ = some (.slice x.A2 x.k2 x.c2) := (hw1b.cell (p := ⟨bl, _, none⟩) hbl).trans YY.out.2.2.2.2.2.2.2.2.2.2.2.1
       have y12 : w1.cell? ⟨bl, ol + i * 14 + 12, none⟩ = some (.int .i64 x.m.off) := (hw1b.cell (p := ⟨bl, _, none⟩) hbl).trans YY.out.2.2.2.2.2.2.2.2.2.2.2.2.1
       have y13 : w1.cell? ⟨bl, ol + i * 14 + 13, none⟩ = some (.slice x.A x.k x.c) := (hw1b.cell (p := ⟨bl, _, none⟩) hbl).trans YY.out.2.2.2.2.2.2.2.2.2.2.2.2.2
       have hwab : Below w.heap.size w (w1.alloc (.cells #[.int .i64 x.m.kind, .int .i64 x.m.fr, .int .i64 x.ti, .int .i64 x.tr, .int .i64 x.m.ix, .int .i64 x.m.tm, .int .i64 x.cm, .int .i64 x.rd, .bool x.okb, .bool x.m.done, .slice x.Ae x.ke x.ce, .slice x.A2 x.k2 x.c2, .int .i64 x.m.off, .slice x.A x.k x.c] 51)) := bel_alloc hw1b _
       have HLent := Lib.hid (lent_ok x.A x.k x.c x.qs (w1.alloc (.cells #[.int .i64 x.m.kind, .int .i64 x.m.fr, .int .i64 x.ti, .int .i64 x.tr, .int .i64 x.m.ix, .int .i64 x.m.tm, .int .i64 x.cm, .int .i64 x.rd, .bool x.okb, .bool x.m.done, .slice x.Ae x.ke x.ce, .slice x.A2 x.k2 x.c2, .int .i64 x.m.off, .slice x.A x.k x.c] 51)) (HOK.out.sp.below hwab) HOK.out.np (by omega))
       have HWA := Lib.hid hwab
       clear hb1 hw1b hwab
       go_wp2_with (fail)
       go_must (refine HLent.out.mono ?_)
       rintro e w2 ⟨gl, cl, rfl, hol, hb2⟩
       have hblkM : Blk w2 w1.heap.size 51 #[.int .i64 x.m.kind, .int .i64 x.m.fr, .int .i64 x.ti, .int .i64 x.tr, .int .i64 x.m.ix, .int .i64 x.m.tm, .int .i64 x.cm, .int .i64 x.rd, .bool x.okb, .bool x.m.done, .slice x.Ae x.ke x.ce, .slice x.A2 x.k2 x.c2, .int .i64 x.m.off, .slice x.A x.k x.c] := (Blk.new w1 _ _).below' hb2
       have hltM := hblkM.lt
       have fM : w2.frozen? ⟨w1.heap.size, 13, none⟩ = false := hblkM.frozen 13
       have z0 : w2.cell? ⟨w1.heap.size, 0, none⟩ = some (.int .i64 x.m.kind) := hblkM.cell 0
       have z1 : w2.cell? ⟨w1.heap.size, 1, none⟩ = some (.int .i64 x.m.fr) := hblkM.cell 1
       have z2 : w2.cell? ⟨w1.heap.size, 2, none⟩ = some (.int .i64 x.ti) := hblkM.cell 2
       have z3 : w2.cell? ⟨w1.heap.size, 3, none⟩ = some (.int .i64 x.tr) := hblkM.cell 3
       have z4 : w2.cell? ⟨w1.heap.size, 4, none⟩ = some (.int .i64 x.m.ix) := hblkM.cell 4
       have z5 : w2.cell? ⟨w1.heap.size, 5, none⟩ = some (.int .i64 x.m.tm) := hblkM.cell 5
       have z6 : w2.cell? ⟨w1.heap.size, 6, none⟩ = some (.int .i64 x.cm) := hblkM.cell 6
       have z7 : w2.cell? ⟨w1.heap.size, 7, none⟩ = some (.int .i64 x.rd) := hblkM.cell 7
       have z8 : w2.cell? ⟨w1.heap.size, 8, none⟩ = some (.bool x.okb) := hblkM.cell 8
       have z9 : w2.cell? ⟨w1.heap.size, 9, none⟩ = some (.bool x.m.done) := hblkM.cell 9
       have z10 : w2.cell? ⟨w1.heap.size, 10, none⟩ = some (.slice x.Ae x.ke x.ce) := hblkM.cell 10
       have z11 : w2.cell? ⟨w1.heap.size, 11, none⟩ = some (.slice x.A2 x.k2 x.c2) := hblkM.cell 11
       have z12 : w2.cell? ⟨w1.heap.size, 12, none⟩ = some (.int .i64 x.m.off) := hblkM.cell 12
       have z13 : w2.cell? ⟨w1.heap.size, 13, none⟩ = some (.slice x.A x.k x.c) := hblkM.cell 13
       have hgl : w1.heap.size < gl := by
        have := (hol.lt gl rfl).1
        simp only [World.alloc, Array.size_push] at this
        omega
       have hz1 := HB1.out.size
       have hzr := HW.out.size
       have hb3 : Below wr.heap.size wr (w2.setCell ⟨w1.heap.size, 13, none⟩ (.slice (some ⟨gl, 0, none⟩) x.k cl)) := ((HB1.out.alloc hz1 _).trans (hb2.mono (by simp only [World.alloc, Array.size_push]; omega))).setCell (p := ⟨w1.heap.size, 13, none⟩) hz1 _
       have hwb3 : Below w.heap.size w (w2.setCell ⟨w1.heap.size, 13, none⟩ (.slice (some ⟨gl, 0, none⟩) x.k cl)) := HW.out.trans (hb3.mono hzr)
       have hI3 := HI.out.below hb3
       have hblk3 : Blk (w2.setCell ⟨w1.heap.size, 13, none⟩ (.slice (some ⟨gl, 0, none⟩) x.k cl)) w1.heap.size 51 #[.int .i64 x.m.kind, .int .i64 x.m.fr, .int .i64 x.ti, .int .i64 x.tr, .int .i64 x.m.ix, .int .i64 x.m.tm, .int .i64 x.cm, .int .i64 x.rd, .bool x.okb, .bool x.m.done, .slice x.Ae x.ke x.ce, .slice x.A2 x.k2 x.c2, .int .i64 x.m.off, .slice (some ⟨gl, 0, none⟩) x.k cl] := hblkM.set 13 _
       have hol3 : (w2.setCell ⟨w1.heap.size, 13, none⟩ (.slice (some ⟨gl, 0, none⟩) x.k cl)).ownsRow (w1.alloc (.cells #[.int .i64 x.m.kind, .int .i64 x.m.fr, .int .i64 x.ti, .int .i64 x.tr, .int .i64 x.m.ix, .int .i64 x.m.tm, .int .i64 x.cm, .int .i64 x.rd, .bool x.okb, .bool x.m.done, .slice x.Ae x.ke x.ce, .slice x.A2 x.k2 x.c2, .int .i64 x.m.off, .slice x.A x.k x.c] 51)).heap.size 59 2 (.slice (some ⟨gl, 0, none⟩) (x.k + 1) cl) (x.k + 1) (pairsCs (x.qs ++ [(markW, [])])) := own_keeps hol (Keeps.setCell (p := ⟨w1.heap.size, 13, none⟩) (Keeps.refl (fun q => q = w1.heap.size) w2) (fun _ => rfl) _) (fun q e e2 => by
        have e : gl = q := by simpa [Value.ownBlock] using e
        omega)
       have hol3 := own_low hol3 (Nat.zero_le _)
       have H3 := Lib.hid (And.intro hb3 (And.intro hwb3 (And.intro hblk3 (And.intro hol3 hI3))))
       clear hb3 hwb3 hblk3 hol3 hI3 hol hb2 hblkM
       go_wp2_with (fail)
       obtain ⟨hb3, hwb3, hblk3, hol3, hI3⟩ := H3.out
       clear H3 fM hltM z0 z1 z2 z3 z4 z5 z6 z7 z8 z9 z10 z11 z12 z13
       generalize w2.setCell ⟨w1.heap.size, 13, none⟩ (.slice (some ⟨gl, 0, none⟩) x.k cl) = w3 at hb3 hwb3 hblk3 hol3 hI3 ⊢
       obtain ⟨m', hm'⟩ : ∃ m' : MsgV, m' = ⟨x.m.kind, x.m.fr, .int .i64 x.ti, .int .i64 x.tr, x.m.ix, x.m.tm, .int .i64 x.cm, .int .i64 x.rd, .bool x.okb, x.m.done, .slice x.Ae x.ke x.ce, .slice x.A2 x.k2 x.c2, x.m.off, .slice (some ⟨gl, 0, none⟩) x.k cl⟩ := ⟨_, rfl⟩
       have hcs' : m'.cs = #[.int .i64 x.m.kind, .int .i64 x.m.fr, .int .i64 x.ti, .int .i64 x.tr, .int .i64 x.m.ix, .int .i64 x.m.tm, .int .i64 x.cm, .int .i64 x.rd, .bool x.okb, .bool x.m.done, .slice x.Ae x.ke x.ce, .slice x.A2 x.k2 x.c2, .int .i64 x.m.off, .slice (some ⟨gl, 0, none⟩) x.k cl] := by rw [hm']; rfl
       have hlen := HOK.out.len
       have hcl1 : x.k + 1 ≤ cl := by
        rcases hol3.2 with ⟨e, _⟩ | ⟨_, _, _, e, _, _, h, _⟩
        · cases e
        · cases e; exact h
       have hmk : MsgCloses w w3 x := ⟨hwb3, HOK.out.sm, HOK.out.one⟩
       have hT := take_ok w.heap.size b s mem ch pv m' (some ⟨gl, 0, none⟩) x.k cl (pairsCs x.qs) w3 hI3.rcv hwb3.size (by rw [hm']) (by have := HL.out.2.1; have := HL.out.2.2.1; omega) (by omega) (pairsCs_one _)
        (fun W hk' => by rw [hm']; exact hmk.clone hk2 hI3.rcv.low hk')
        (fun W hk' => lent_clone hol3 hlen hk (fun e => by have := (hI3.rcv.lt gl e).2; have := (HI.out.rcv.lt gl e).2; omega) hk')
       rw [hcs'] at hT
       have HT := Lib.hid hT
       have HM' := Lib.hid hm'
       have H3 := Lib.hid (And.intro hwb3 (And.intro hblk3 (And.intro hol3 (And.intro hI3 (And.intro hlen hb3)))))
       clear hT hm' hcs' hmk hb3 hwb3 hblk3 hol3 hI3 hlen
       go_must (refine HT.out.mono ?_)
       rintro e w4 ⟨rfl, hk4, mem4, ch4, pv4, hr4, hch4, hpv4⟩
       obtain ⟨hwb3, hblk3, hol3, hI3, hlen, hb3⟩ := H3.out
       clear H3 HT
       have hI4 := hI3.took hk4 hr4 hpv4
       have hzr3 := hb3.size
       have hnew : ∀ q, wr.heap.size ≤ q → ¬ RcvS b ch pv q := fun q hq hs => by have := (HI.out.rcv.lt q hs).2; omega
       have hwb4 : Below w.heap.size w w4 := hwb3.trans (hk4.below hwb3.size fun q hq hs => by have := (hI3.rcv.lt q hs).1; omega)
       have hblk4 := hblk3.keeps hk4 (hnew _ hz1)
       have hol4 := own_keeps hol3 hk4 (fun q e => hnew q (by
        have e : gl = q := by simpa [Value.ownBlock] using e
        omega))
       obtain ⟨L', hx', hn4, hL'⟩ := take_list (s := s) (L := L) m' x.k x.qs HL.out.1 HL.out.2.1 hlen hk
       obtain ⟨mM, hmM⟩ : ∃ mM : MsgV, mM = ⟨x.m.kind, x.m.fr, .int .i64 x.ti, .int .i64 x.tr, x.m.ix, x.m.tm, .int .i64 x.cm, .int .i64 x.rd, .bool x.okb, x.m.done, .slice x.Ae x.ke x.ce, .slice x.A2 x.k2 x.c2, x.m.off, .slice x.A x.k x.c⟩ := ⟨_, rfl⟩
       have hcsM : mM.cs = #[.int .i64 x.m.kind, .int .i64 x.m.fr, .int .i64 x.ti, .int .i64 x.tr, .int .i64 x.m.ix, .int .i64 x.m.tm, .int .i64 x.cm, .int .i64 x.rd, .bool x.okb, .bool x.m.done, .slice x.Ae x.ke x.ce, .slice x.A2 x.k2 x.c2, .int .i64 x.m.off, .slice x.A x.k x.c] := by rw [hmM]; rfl
       have hTM : s.take mM x.k (pairsCs x.qs) = s.take m' x.k (pairsCs x.qs) := by rw [HM'.out, hmM]; rfl
       have hR := refTake_ok w.heap.size rb s mem2 pv2 mM x.A x.A2 x.k x.c x.k2 x.c2 (pairsCs x.qs) x.zs w4 hI4.ref hwb4.size (by rw [hmM]) (by rw [hmM]) (by have := HL.out.2.1; have := HL.out.2.2.1; omega) (by omega) (by omega) (by rw [HL.out.1]; exact pairsCs_one _) (pairsCs_one _) HOK.out.one (HOK.out.sp.below hwb4) HOK.out.np (HOK.out.sm.below hwb4) HOK.out.nm
       rw [hcsM, hTM] at hR
       have HR := Lib.hid hR
       have hdone := Lib.hid (And.intro hx' (And.intro hn4 hL'))
       generalize s.take m' x.k (pairsCs x.qs) = s' at hI4 HR hdone hr4 ⊢
       have hpl4 : pv4.ownBlock ≠ some gl := fun e => (hpv4 gl e).elim (fun e => by have := (HI.out.rcv.row.lt gl e).2; omega) (fun e => by have := (hol3.lt gl rfl).2; omega)
       have H4 := Lib.hid (And.intro hwb4 (And.intro hblk4 (And.intro hol4 (And.intro hI4 (And.intro hlen (And.intro hpl4 (And.intro (hol4.lt gl rfl).2 hz1)))))))
       have y0 : w4.cell? ⟨bl, ol + i * 14, none⟩ = some (.int .i64 x.m.kind) := (hwb4.cell (p := ⟨bl, _, none⟩) hbl).trans YY.out.1
       have y1 : w4.cell? ⟨bl, ol + i * 14 + 1, none⟩ = some (.int .i64 x.m.fr) := (hwb4.cell (p := ⟨bl, _, none⟩) hbl).trans YY.out.2.1
       have y2 : w4.cell? ⟨bl, ol + i * 14 + 2, none⟩ = some (.int .i64 x.ti) := (hwb4.cell (p := ⟨bl, _, none⟩) hbl).trans YY.out.2.2.1
       have y3 : w4.cell? ⟨bl, ol + i * 14 + 3, none⟩ = some (.int .i64 x.tr) := (hwb4.cell (p := ⟨bl, _, none⟩) hbl).trans YY.out.2.2.2.1
       have y4 : w4.cell? ⟨bl, ol + i * 14 + 4, none⟩ = some (.int .i64 x.m.ix) := (hwb4.cell (p := ⟨bl, _, none⟩) hbl).trans YY.out.2.2.2.2.1
       have y5 : w4.cell? ⟨bl, ol + i * 14 + 5, none⟩ = some (.int .i64 x.m.tm) := (hwb4.cell (p := ⟨bl, _, none⟩) hbl).trans YY.out.2.2.2.2.2.1
       have y6 : w4.cell? ⟨bl, ol + i * 14 + 6, none⟩ = some (.int .i64 x.cm) := (hwb4.cell (p := ⟨bl, _, none⟩) hbl).trans YY.out.2.2.2.2.2.2.1
       have y7 : w4.cell? ⟨bl, ol + i * 14 + 7, none⟩ = some (.int .i64 x.rd) := (hwb4.cell (p := ⟨bl, _, none⟩) hbl).trans YY.out.2.2.2.2.2.2.2.1
       have y8 : w4.cell? ⟨bl, ol + i * 14 + 8, none⟩ = some (.bool x.okb) := (hwb4.cell (p := ⟨bl, _, none⟩) hbl).trans YY.out.2.2.2.2.2.2.2.2.1
       have y9 : w4.cell? ⟨bl, ol + i * 14 + 9, none⟩ = some (.bool x.m.done) := (hwb4.cell (p := ⟨bl, _, none⟩) hbl).trans YY.out.2.2.2.2.2.2.2.2.2.1
       have y10 : w4.cell? ⟨bl, ol + i * 14 + 10, none⟩ = some (.slice x.Ae x.ke x.ce) := (hwb4.cell (p := ⟨bl, _, none⟩) hbl).trans YY.out.2.2.2.2.2.2.2.2.2.2.1
       have y11 : w4.cell? ⟨bl, ol + i * 14 + 11, none⟩ = some (.slice x.A2 x.k2 x.c2) := (hwb4.cell (p := ⟨bl, _, none⟩) hbl).trans YY.out.2.2.2.2.2.2.2.2.2.2.2.1
       have y12 : w4.cell? ⟨bl, ol + i * 14 + 12, none⟩ = some (.int .i64 x.m.off) := (hwb4.cell (p := ⟨bl, _, none⟩) hbl).trans YY.out.2.2.2.2.2.2.2.2.2.2.2.2.1
       have y13 : w4.cell? ⟨bl, ol + i * 14 + 13, none⟩ = some (.slice x.A x.k x.c) := (hwb4.cell (p := ⟨bl, _, none⟩) hbl).trans YY.out.2.2.2.2.2.2.2.2.2.2.2.2.2
       clear hwb3 hblk3 hol3 hI3 hlen hb3 hI4 hwb4 hblk4 hol4 hx' hn4 hL' hmM hcsM hTM hR hr4 hch4 hpv4 hk4 hnew
       go_wp2_with (fail)
       go_must (refine HR.out.mono ?_)
       rintro e w5 ⟨rfl, hk5, mem5, pv5, hr5, hp5⟩
       obtain ⟨hwb4, hblk4, hol4, hI4, hlen, hpl4, hgl4, -⟩ := H4.out
       clear H4 HR y0 y1 y2 y3 y4 y5 y6 y7 y8 y9 y10 y11 y12 y13
       have hI5 := hI4.took2 hk5 hr5 hp5
       have hrbl : rb < wr.heap.size := HI.out.ref.blk.lt
       have hwb5 : Below w.heap.size w w5 := hwb4.trans (hk5.below hwb4.size fun q hq e => by have := hI4.ref.low; omega)
       have hblk5 := hblk4.keeps hk5 (by omega)
       have hol5 := own_keeps hol4 hk5 (fun q e e2 => by
        have e : gl = q := by simpa [Value.ownBlock] using e
        omega)
       have hpl5 : pv5.ownBlock ≠ some gl := fun e => (hp5 gl e).elim (fun e => by have := (HI.out.ref.row.lt gl e).2; omega) (fun e => by omega)
       obtain ⟨A5, c5, hv5, -⟩ := Sl.of_own hI5.ref.row
       subst hv5
       have HP := Lib.hid (rcvPairs_ok w.heap.size b s' mem4 ch4 pv4 L' w5 hI5.rcv hdone.out.1 (by have := hdone.out.2.1; have := hdone.out.2.2; have := HL.out.2.2.1; omega))
       have H5 := Lib.hid (And.intro hwb5 (And.intro hblk5 (And.intro hol5 (And.intro hI5 (And.intro hlen (And.intro hpl4 hpl5))))))
       have hgl5 := (hol5.lt gl rfl).2
       clear hwb4 hblk4 hol4 hI4 hlen hpl4 hgl4 hk5 hr5 hp5 hI5 hwb5 hblk5 hol5 hpl5
       go_wp2_with (fail)
       go_must (refine HP.out.mono ?_)
       rintro e w6 ⟨v6, rfl, ho6, hb6⟩
       obtain ⟨hwb5, hblk5, hol5, hI5, hlen, hpl4, hpl5⟩ := H5.out
       clear H5 HP
       obtain ⟨A6, c6, rfl, -⟩ := Sl.of_own ho6
       have hI6 := hI5.below hb6
       have hL60 : L'.length ≤ 60 * i + 60 := by have := hdone.out.2.2; have := HL.out.2.2.1; omega
       have hmsl : ms.length = i := hI6.lm
       have hwsl : ws.length = i := by rw [hI6.rw'.1, ← hI6.rm.1, hmsl]
       have hK6 := bookPairs_any A6 L'.length c6 L' hI6.bk (Nat.le_trans hwb5.size hb6.size) (by omega) (by omega) (Sl.of_own ho6) (own_none0 ho6) (by omega) (fun bb o e hs => own_far ho6 hI6.bk bb (by rw [e]; rfl) hs)
       have HK6 := Lib.hid hK6
       have H6 := Lib.hid (And.intro hwb5 (And.intro hblk5 (And.intro hol5 (And.intro hI5 (And.intro hlen (And.intro hpl4 (And.intro hpl5 (And.intro ho6 (And.intro hb6 hI6)))))))))
       clear hwb5 hblk5 hol5 hI5 hlen hpl4 hpl5 ho6 hb6 hI6 hK6 hmsl hwsl
       go_wp2_with (fail)
       go_must (refine HK6.out.mono ?_)
       rintro e w7 hp7
       obtain ⟨hwb5, hblk5, hol5, hI5, hlen, hpl4, hpl5, ho6, hb6, hI6⟩ := H6.out
       clear H6 HK6
       obtain ⟨rfl, bp7, bw7, ws7, hI7, hk7, hm7, hs7⟩ := hI6.kept (n := 0) (W0 := w5) hb6.size ho6 hwb5.size (fun q hq => hq.elim (fun h => (hI5.rcv.lt q h).2) fun h => h.elim (fun h => (hI5.ref.row.lt q h).2) fun h => h.elim (fun h => (hI5.rm.ltP q h).2) fun h => (hI5.rw'.ltP q h).2) hp7
       have hbold : ∀ q, BookS g bp bw q → q < wr.heap.size := fun q h => (HI.out.bk.lt q h).2
       have hwb7 : Below w.heap.size w w7 := (hwb5.trans (hb6.mono hwb5.size)).trans (hk7.below (Nat.le_trans hwb5.size hb6.size) fun q hq h => by have := (hI6.bk.lt q h).1; omega)
       have hblk7 := (hblk5.below' hb6).keeps hk7 (fun h => by have := hbold _ h; omega)
       have hol7 := own_keeps (own_below hol5 hb6) hk7 (fun q e h => by
        have e : gl = q := by simpa [Value.ownBlock] using e
        have := hbold _ h
        omega)
       have ho7 := own_keeps ho6 hk7 (fun q e h => own_far ho6 hI6.bk q e h)
       have hgm : ¬ OfP (ms ++ [.slice A6 L'.length c6]) gl := fun h => (hm7 gl h).elim (fun h => by have := (HI.out.rm.ltP gl h).2; omega) (fun h => by omega)
       have hgw : ¬ OfP ws7 gl := fun h => (hs7 gl h).elim (fun h => by have := (HI.out.rw'.ltP gl h).2; omega) (fun h => by have := hb6.size; omega)
       have hrow7 := hI7.ref.row
       rw [hdone.out.1] at hrow7
       have HSame := Lib.hid (fun W (hb : Below w7.heap.size w7 W) => samePairs_any A6 A5 L'.length s'.n c6 c5 L' L' W ((Sl.of_own ho7).below hb) ((Sl.of_own hrow7).below hb) (by omega) (by have := hdone.out.2.1; omega))
       have HStay := Lib.hid (fun W (hb : Below w7.heap.size w7 W) => stays_ok gl cl x.k x.A x.c x.qs 0 W (own_low (own_below hol7 hb) (Nat.zero_le _)) ((HOK.out.sp.below hwb7).below hb) (by omega))
       have z13 : w7.cell? ⟨w1.heap.size, 13, none⟩ = some (.slice (some ⟨gl, 0, none⟩) x.k cl) := hblk7.cell 13
       have x5 : w7.cell? ⟨rb, 5, none⟩ = some (.slice A5 s'.n c5) := hI7.ref.blk.cell 5
       have y13 : w7.cell? ⟨bl, ol + i * 14 + 13, none⟩ = some (.slice x.A x.k x.c) := (hwb7.cell (p := ⟨bl, _, none⟩) hbl).trans YY.out.2.2.2.2.2.2.2.2.2.2.2.2.2
       have hq1 : w1.heap.size < w7.heap.size := hblk7.lt
       have hq2 : rb < w7.heap.size := hI7.ref.blk.lt
       have hq3 : bl < w7.heap.size := Nat.lt_of_lt_of_le hbl hwb7.size
       obtain ⟨S, hS⟩ : ∃ S : World → Prop, S = fun W => W.cell? ⟨w1.heap.size, 13, none⟩ = some (.slice (some ⟨gl, 0, none⟩) x.k cl) ∧ W.cell? ⟨rb, 5, none⟩ = some (.slice A5 s'.n c5) ∧ W.cell? ⟨bl, ol + i * 14 + 13, none⟩ = some (.slice x.A x.k x.c) := ⟨_, rfl⟩
       have hSB : ∀ W, Below w7.heap.size w7 W → S W := fun W hb => by
        rw [hS]
        exact ⟨(hb.cell (p := ⟨_, 13, none⟩) hq1).trans z13, (hb.cell (p := ⟨_, 5, none⟩) hq2).trans x5, (hb.cell (p := ⟨bl, _, none⟩) hq3).trans y13⟩
       have HSB := Lib.hid hSB
       have HSe := Lib.hid hS
       have HS := hSB _ (Below.refl _ w7).drew
       have H7 := Lib.hid (And.intro hwb7 (And.intro hblk7 (And.intro hol7 (And.intro hI7 (And.intro hpl4 (And.intro hpl5 (And.intro hgm hgw)))))))
       clear hwb5 hblk5 hol5 hI5 hlen hpl4 hpl5 ho6 hb6 hI6 hp7 hI7 hk7 hm7 hs7 hbold hwb7 hblk7 hol7 ho7 hgm hgw hrow7 z13 x5 y13 hS hSB
       go_wp2_with (fail)
       refine wp_region_held (S := S) (by kernel_rfl) ?_
       change wpAnyH _ _ _ _ _ _ _ _ (World.drew _)
       try simp only [Act.put, lT, l0, lS]
       refine tkH 0 (v := ?_) rfl (by kernel_rfl) (fun _ _ _ h => h) (by rfl) HS ?hy ?_
       case hy => intro w hE; rw [HSe.out] at hE; go_simp; try with_reducible rfl
       try simp only [Act.put, lT, l0, lS]
       refine tkH 1 (v := ?_) rfl (by kernel_rfl) (fun _ _ _ h => h) (by rfl) HS ?hy ?_
       case hy => intro w hE; rw [HSe.out] at hE; go_simp; try with_reducible rfl
       try simp only [Act.put, lT, l0, lS]
       refine tkH 2 (v := ?_) rfl (by kernel_rfl) (fun _ _ _ h => h) (by rfl) HS ?hy ?_
       case hy => intro w hE; rw [HSe.out] at hE; go_simp; try with_reducible rfl
       try simp only [Act.put, lT, l0, lS]
       refine tkH 3 (v := ?_) rfl (by kernel_rfl) (fun _ _ _ h => h) (by rfl) HS ?hy ?_
       case hy => intro w hE; rw [HSe.out] at hE; go_simp; try with_reducible rfl
       try simp only [Act.put, lT, l0, lS]
       refine tkH 4 (v := ?_) rfl (by kernel_rfl) (fun _ _ _ h => h) (by rfl) HS ?hy ?_
       case hy => intro w hE; rw [HSe.out] at hE; go_simp; try with_reducible rfl
       try simp only [Act.put, lT, l0, lS]
       refine tkH 5 (v := ?_) rfl (by kernel_rfl) (fun _ _ _ h => h) (by rfl) HS ?hy ?_
       case hy => intro w hE; rw [HSe.out] at hE; go_simp; try with_reducible rfl
       try simp only [Act.put, lT, l0, lS]
       refine tkH 6 (v := ?_) rfl (by kernel_rfl) (fun _ _ _ h => h) (by rfl) HS ?hy ?_
       case hy => intro w hE; rw [HSe.out] at hE; go_simp; try with_reducible rfl
       try simp only [Act.put, lT, l0, lS]
       refine tkH 7 (v := ?_) rfl (by kernel_rfl) (fun _ _ _ h => h) (by rfl) HS ?hy ?_
       case hy => intro w hE; rw [HSe.out] at hE; go_simp; try with_reducible rfl
       try simp only [Act.put, lT, l0, lS]
       refine tkH 8 (v := ?_) rfl (by kernel_rfl) (fun _ _ _ h => h) (by rfl) HS ?hy ?_
       case hy => intro w hE; rw [HSe.out] at hE; go_simp; try with_reducible rfl
       try simp only [Act.put, lT, l0, lS]
       refine tkH 9 (v := ?_) rfl (by kernel_rfl) (fun _ _ _ h => h) (by rfl) HS ?hy ?_
       case hy => intro w hE; rw [HSe.out] at hE; go_simp; try with_reducible rfl
       try simp only [Act.put, lT, l0, lS]
       refine tkH 10 (v := ?_) rfl (by kernel_rfl) (fun _ _ _ h => h) (by rfl) HS ?hy ?_
       case hy => intro w hE; rw [HSe.out] at hE; go_simp; try with_reducible rfl
       try simp only [Act.put, lT, l0, lS]
       refine tkH 11 (v := ?_) rfl (by kernel_rfl) (fun _ _ _ h => h) (by rfl) HS ?hy ?_
       case hy => intro w hE; rw [HSe.out] at hE; go_simp; try with_reducible rfl
       try simp only [Act.put, lT, l0, lS]
       refine tkH 12 (v := ?_) rfl (by kernel_rfl) (fun _ _ _ h => h) (by rfl) HS ?hy ?_
       case hy => intro w hE; rw [HSe.out] at hE; go_simp; try with_reducible rfl
       try simp only [Act.put, lT, l0, lS]
       refine tkH 13 (v := ?_) rfl (by kernel_rfl) (fun _ _ _ h => h) (by rfl) HS ?hy ?_
       case hy => intro w hE; rw [HSe.out] at hE; go_simp; try with_reducible rfl
       try simp only [Act.put, lT, l0, lS]
       refine rdH 14 (by kernel_rfl) rfl (fun K hK => ?_)
       go_simp
       go_must (refine (HSame.out _ (Below.refl _ w7).drew).mono ?_)
       rintro e w8 ⟨rfl, hb8⟩
       have hbw8 : Below w7.heap.size w7 w8 := ((Below.refl _ w7).drew).trans hb8
       have HS := HSB.out _ hbw8
       go_simp
       refine hK _ _ HS ?_
       clear hK K
       try simp only [Act.put, lT, l0, lS]
       refine tkH 15 (v := ?_) rfl (by kernel_rfl) (fun _ _ _ h => h) (by rfl) HS ?hy ?_
       case hy => intro w hE; rw [HSe.out] at hE; go_simp; try with_reducible rfl
       try simp only [Act.put, lT, l0, lS]
       refine tkH 16 (v := ?_) rfl (by kernel_rfl) (fun _ _ _ h => h) (by rfl) HS ?hy ?_
       case hy => intro w hE; rw [HSe.out] at hE; go_simp; try with_reducible rfl
       try simp only [Act.put, lT, l0, lS]
       refine tkH 17 (v := ?_) rfl (by kernel_rfl) (fun _ _ _ h => h) (by rfl) HS ?hy ?_
       case hy => intro w hE; rw [HSe.out] at hE; go_simp; try with_reducible rfl
       try simp only [Act.put, lT, l0, lS]
       refine tkH 18 (v := ?_) rfl (by kernel_rfl) (fun _ _ _ h => h) (by rfl) HS ?hy ?_
       case hy => intro w hE; rw [HSe.out] at hE; go_simp; try with_reducible rfl
       try simp only [Act.put, lT, l0, lS]
       refine tkH 19 (v := ?_) rfl (by kernel_rfl) (fun _ _ _ h => h) (by rfl) HS ?hy ?_
       case hy => intro w hE; rw [HSe.out] at hE; go_simp; try with_reducible rfl
       try simp only [Act.put, lT, l0, lS]
       refine tkH 20 (v := ?_) rfl (by kernel_rfl) (fun _ _ _ h => h) (by rfl) HS ?hy ?_
       case hy => intro w hE; rw [HSe.out] at hE; go_simp; try with_reducible rfl
       try simp only [Act.put, lT, l0, lS]
       refine tkH 21 (v := ?_) rfl (by kernel_rfl) (fun _ _ _ h => h) (by rfl) HS ?hy ?_
       case hy => intro w hE; rw [HSe.out] at hE; go_simp; try with_reducible rfl
       try simp only [Act.put, lT, l0, lS]
       refine tkH 22 (v := ?_) rfl (by kernel_rfl) (fun _ _ _ h => h) (by rfl) HS ?hy ?_
       case hy => intro w hE; rw [HSe.out] at hE; go_simp; try with_reducible rfl
       try simp only [Act.put, lT, l0, lS]
       refine tkH 23 (v := ?_) rfl (by kernel_rfl) (fun _ _ _ h => h) (by rfl) HS ?hy ?_
       case hy => intro w hE; rw [HSe.out] at hE; go_simp; try with_reducible rfl
       try simp only [Act.put, lT, l0, lS]
       refine tkH 24 (v := ?_) rfl (by kernel_rfl) (fun _ _ _ h => h) (by rfl) HS ?hy ?_
       case hy => intro w hE; rw [HSe.out] at hE; go_simp; try with_reducible rfl
       try simp only [Act.put, lT, l0, lS]
       refine rdH 25 (by kernel_rfl) rfl (fun K hK => ?_)
       go_simp
       go_must (refine (HStay.out _ hbw8).mono ?_)
       rintro e w9 ⟨rfl, hb9⟩
       have hbw9 : Below w7.heap.size w7 w9 := bel_then hbw8 hb9
       have HS := HSB.out _ hbw9
       go_simp
       refine hK _ _ HS ?_
       clear hK K
       try simp only [Act.put, lT, l0, lS]
       refine tkH 26 (v := ?_) rfl (by kernel_rfl) (fun _ _ _ h => h) (by rfl) HS ?hy ?_
       case hy => intro w hE; rw [HSe.out] at hE; go_simp; try with_reducible rfl
       try simp only [Act.put, lT, l0, lS]
       refine tkH 27 (v := ?_) rfl (by kernel_rfl) (fun _ _ _ h => h) (by rfl) HS ?hy ?_
       case hy => intro w hE; rw [HSe.out] at hE; go_simp; try with_reducible rfl
       try simp only [Act.put, lT, l0, lS]
       refine wpAnyH_done (by kernel_rfl) ?_ _
       obtain ⟨hwb7, hblk7, hol7, hI7, hpl4, hpl5, hgm, hgw⟩ := H7.out
       have hI9 := hI7.below hbw9
       have hblk9 := hblk7.below' hbw9
       have hol9 := own_below hol7 hbw9
       have hwb9 := bel_then hwb7 hbw9
       have H9 := Lib.hid (And.intro hwb9 (And.intro hblk9 (And.intro hol9 (And.intro hI9 (And.intro hpl4 (And.intro hpl5 (And.intro hgm hgw)))))))
       clear H7 HS HSB HSe HSame HStay hwb7 hblk7 hol7 hI7 hpl4 hpl5 hgm hgw hI9 hblk9 hol9 hwb9 hbw9 hbw8 hb8 hb9
       go_wp2_with (fail)
       obtain ⟨gq, hgq⟩ : ∃ x, x = gk := ⟨_, rfl⟩
       subst hgq
       go_loopg [15] x.k (fun gk s15 wq => ∃ kk : Nat, s15 = .int .i64 (kk : Int) ∧ kk + gk = x.k ∧ Hid (Keeps (fun q => q = gl) w9 wq ∧ ∃ cs, wq.ownsRow 0 59 2 (.slice (some ⟨gl, 0, none⟩) (x.k + 1) cl) (x.k + 1) cs))
       case atStart => exact ⟨0, rfl, by omega, Keeps.refl _ _, _, own_low H9.out.2.2.1 (Nat.zero_le _)⟩
       case round =>
        obtain ⟨kk, rfl, hkk, hq⟩ := hrel
        obtain ⟨hkq, cs, hoq⟩ := hq.out
        have hblkq := H9.out.2.1.keeps hkq (by omega)
        have z13 : wr.cell? ⟨w1.heap.size, 13, none⟩ = some (.slice (some ⟨gl, 0, none⟩) x.k cl) := hblkq.cell 13
        have hltq := hblkq.lt
        by_cases h2 : kk < x.k
        case pos =>
         have h2' : (kk : Int) < (x.k : Int) := by omega
         have hkk0 : (0 : Int) ≤ (kk : Int) := by omega
         have hw2 : IntKind.i64.wrap ((kk : Int) + 1) = (kk : Int) + 1 := IntWalk.i64_in _ (by omega)
         have hlen : cs.length = (x.k + 1) * 2 := hoq.1
         have e0 := hoq.cells (g := gl) rfl (kk * 2) _ (List.getElem?_eq_getElem (by omega))
         rw [addr_add, Nat.zero_add] at e0
         obtain ⟨u0, d0⟩ : ∃ u0, wr.cell? ⟨gl, kk * 2, none⟩ = some u0 := ⟨_, e0⟩
         clear e0
         have f0 : wr.frozen? ⟨gl, kk * 2, none⟩ = false := hoq.frozenAt _
         obtain ⟨o0, _⟩ := hoq.stored (kk * 2) (.string ⟨#[111, 116, 104, 101, 114]⟩)
         have hk1 : Keeps (fun q => q = gl) w9 (wr.setCell ⟨gl, kk * 2, none⟩ (.string ⟨#[111, 116, 104, 101, 114]⟩)) := hkq.setCell (p := ⟨gl, kk * 2, none⟩) (fun _ => rfl) _
         have HO := Lib.hid (And.intro hk1 o0)
         have hglq := (hoq.lt gl rfl).2
         clear hkq hoq hq hblkq hk1 o0 hlen
         go_wp2_with (fail)
         go_roundg (gk - 1)
         case measure => omega
         case rel => exact ⟨kk + 1, by simp, by omega, HO.out.1, _, HO.out.2⟩
        case neg =>
         have h2' : ¬ (kk : Int) < (x.k : Int) := by omega
         obtain ⟨hwb9, hblk9, hol9, hI9, hpl4, hpl5, hgm, hgw⟩ := H9.out
         have hIq := hI9.lent hol9 rfl hpl4 hpl5 hgm hgw hkq
         have hwbq : Below w.heap.size w wr := hwb9.trans (hkq.below hwb9.size fun q hq e => by omega)
         have hlsq : ∀ (j : Nat) (l : List Pair), (ls ++ [L'])[j]? = some l → l.length ≤ 9000 := fun j l hj => by
          rw [List.getElem?_append] at hj
          split at hj
          · exact HL.out.2.2.2 j l hj
          · have hj2 : j - ls.length < 1 := (List.getElem?_eq_some_iff.1 hj).1
            rw [show j - ls.length = 0 by omega] at hj
            cases hj
            omega
         have HF : Hid (RoundI w wr b rb g (i + 1)) := ⟨hwbq, s', L', mem4, ch4, pv4, mem5, _, bp7, bw7, _, ws7, _, hIq, hdone.out.1, hdone.out.2.1, by omega, hlsq⟩
         clear hwb9 hblk9 hol9 hI9 hpl4 hpl5 hgm hgw hIq hwbq hlsq hkq hoq hq hblkq
         go_wp2_with (fail)
         go_roundg (gq - 1)
         case measure => omega
         case rel => exact ⟨i + 1, by simp, by omega, HF⟩
     case neg =>
      have h1' : ¬ (i : Int) < (n : Int) := by omega
      obtain ⟨hbw, s, L, mem, ch, pv, mem2, pv2, bp, bw, ms, ws, ls, hI, hxs, hsn, hL, hls⟩ := hR.out
      have HI := Lib.hid hI
      have HW := Lib.hid hbw
      have HLS := Lib.hid hls
      clear hR hI hbw hxs hsn hL hls
      go_wp2_with (fail)
      go_must (refine (HAl.out _).mono ?_)
      rintro e w1 ⟨rfl, hb1⟩
      have hI1 := HI.out.below hb1
      have HAp := Lib.hid (apartO_any ls hI1.bk hI1.rm (bel_then HW.out hb1).size hI1.rw'.sl hI1.ap HLS.out (by have := hI1.lm; omega))
      have HI1 := Lib.hid (And.intro hI1 (bel_then HW.out hb1))
      clear hI1 hb1
      go_wp2_with (fail)
      go_must (refine HAp.out.mono ?_)
      rintro e w2 ⟨rfl, hk2⟩
      go_wp2_with (fail)
      go_ret
      exact ⟨rfl, HI1.out.2.trans (hk2.below HI1.out.2.size fun q hq h => by have := (HI1.out.1.rm.ltP q h).1; omega)⟩
end Go.Ev
