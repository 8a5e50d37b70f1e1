/-
  A book of lists of pairs: is each list as it was, and does none share memory with another one? A book into which a range is put, twice.
-/
import Derived.Test.YtgfmhppkmogdhaaGreatDoorMPGwBook4
set_option linter.unusedVariables false
set_option linter.unusedSimpArgs false
set_option linter.unusedVariables false
set_option linter.unusedSimpArgs false
namespace Go.Ev
open Go.Proofs Go.RowKit

set_option maxHeartbeats 8000000 in
set_option maxRecDepth 100000 in
theorem apart_any {W : World} {B B2 g : Nat} {pv wv : Value} {ms ws : List Value} (ls : List (List Pair)) (h : BookAt W B g pv wv ms ws) (hr : RowsAt W B2 ms ls) (hl2 : SlL W ws ls) (ha : Apart ms) (hb : ∀ (i : Nat) (l : List Pair), ls[i]? = some l → l.length ≤ 9000) (hn : ms.length ≤ 1000) :
    Calls Tryz.prog 24 #[ptrV g] W fun e w' => e = .returned (.bool true) ∧ Keeps (OfP ms) W w' := by
  have HS := Lib.hid (stillPairs_any ls h hr.sl hl2 (fun i l e => Nat.le_trans (hb i l e) (by decide)) hn)
  have HA := Lib.hid (And.intro h (And.intro hr (And.intro ha (And.intro hb hn))))
  have HB0 := Lib.hid h.blk
  obtain ⟨Ap, cp, rfl, -⟩ := Sl.of_own h.pr
  clear h hr hl2 ha hb hn
  go_enter Tryz.func24, Tryz.ntmps24
  go_wp2_with (fail)
  go_must (refine (stillTexts_nil (HB0.out.cell 0)).mono ?_)
  rintro e w0 ⟨rfl, rfl⟩
  go_wp2_with (fail)
  go_must (refine (stillInts_nil (HB0.out.cell 2)).mono ?_)
  rintro e w0 ⟨rfl, rfl⟩
  go_wp2_with (fail)
  go_must (refine (stillItems_nil (HB0.out.cell 4)).mono ?_)
  rintro e w0 ⟨rfl, rfl⟩
  go_wp2_with (fail)
  go_must (refine (stillChildren_nil (HB0.out.cell 6)).mono ?_)
  rintro e w0 ⟨rfl, rfl⟩
  go_wp2_with (fail)
  go_must (refine HS.out.mono ?_)
  rintro e w1 ⟨rfl, hb1⟩
  have HB1 := Lib.hid (HA.out.1.blk.below' hb1)
  have HA1 := Lib.hid (And.intro (HA.out.1.below hb1) (HA.out.2.1.below hb1))
  have HP := Lib.hid (putPairs_any ls HA1.out.1 HA1.out.2 HA.out.2.2.1 (fun i l e => Nat.le_trans (HA.out.2.2.2.1 i l e) (by decide)) HA.out.2.2.2.2)
  have HW1 := Lib.hid hb1
  clear hb1
  go_wp2_with (fail)
  go_must (refine (stillEntries_nil (HB1.out.cell 10)).mono ?_)
  rintro e w0 ⟨rfl, rfl⟩
  go_wp2_with (fail)
  go_must (refine (stillMsgs_nil (HB1.out.cell 12)).mono ?_)
  rintro e w0 ⟨rfl, rfl⟩
  go_wp2_with (fail)
  go_must (refine (stillDues_nil (HB1.out.cell 14)).mono ?_)
  rintro e w0 ⟨rfl, rfl⟩
  go_wp2_with (fail)
  go_must (refine (stillPackets_nil (HB1.out.cell 16)).mono ?_)
  rintro e w0 ⟨rfl, rfl⟩
  go_wp2_with (fail)
  go_must (refine (stillEvents_nil (HB1.out.cell 18)).mono ?_)
  rintro e w0 ⟨rfl, rfl⟩
  go_wp2_with (fail)
  go_must (refine (stillSteps_nil (HB1.out.cell 20)).mono ?_)
  rintro e w0 ⟨rfl, rfl⟩
  go_wp2_with (fail)
  go_must (refine (putMsgs_nil (HB1.out.cell 12)).mono ?_)
  rintro e w0 ⟨rfl, rfl⟩
  go_wp2_with (fail)
  go_must (refine (putSteps_nil (HB1.out.cell 20)).mono ?_)
  rintro e w0 ⟨rfl, rfl⟩
  go_wp2_with (fail)
  go_must (refine (putTexts_nil (HB1.out.cell 0)).mono ?_)
  rintro e w0 ⟨rfl, rfl⟩
  go_wp2_with (fail)
  go_must (refine (putInts_nil (HB1.out.cell 2)).mono ?_)
  rintro e w0 ⟨rfl, rfl⟩
  go_wp2_with (fail)
  go_must (refine (putItems_nil (HB1.out.cell 4)).mono ?_)
  rintro e w0 ⟨rfl, rfl⟩
  go_wp2_with (fail)
  go_must (refine (putChildren_nil (HB1.out.cell 6)).mono ?_)
  rintro e w0 ⟨rfl, rfl⟩
  go_wp2_with (fail)
  go_must (refine HP.out.mono ?_)
  rintro e w2 ⟨rfl, hr2, hk2⟩
  have HA2 := Lib.hid (And.intro (HA1.out.1.keeps hk2 (fun k hk => HA1.out.2.far HA1.out.1 k hk)) hr2)
  have HB2 := Lib.hid HA2.out.1.blk
  have HG := Lib.hid (growPairs_any ls HA2.out.1 HA2.out.2 HA.out.2.2.2.1 HA.out.2.2.2.2)
  have HK2 := Lib.hid ((Keeps.of_below (S := OfP ms) HW1.out).trans hk2 fun _ _ h => h)
  clear hr2 hk2
  go_wp2_with (fail)
  go_must (refine (putEntries_nil (HB2.out.cell 10)).mono ?_)
  rintro e w0 ⟨rfl, rfl⟩
  go_wp2_with (fail)
  go_must (refine (putDues_nil (HB2.out.cell 14)).mono ?_)
  rintro e w0 ⟨rfl, rfl⟩
  go_wp2_with (fail)
  go_must (refine (putPackets_nil (HB2.out.cell 16)).mono ?_)
  rintro e w0 ⟨rfl, rfl⟩
  go_wp2_with (fail)
  go_must (refine (putEvents_nil (HB2.out.cell 18)).mono ?_)
  rintro e w0 ⟨rfl, rfl⟩
  go_wp2_with (fail)
  go_must (refine (growTexts_nil (HB2.out.cell 0)).mono ?_)
  rintro e w0 ⟨rfl, rfl⟩
  go_wp2_with (fail)
  go_must (refine (growInts_nil (HB2.out.cell 2)).mono ?_)
  rintro e w0 ⟨rfl, rfl⟩
  go_wp2_with (fail)
  go_must (refine (growItems_nil (HB2.out.cell 4)).mono ?_)
  rintro e w0 ⟨rfl, rfl⟩
  go_wp2_with (fail)
  go_must (refine (growChildren_nil (HB2.out.cell 6)).mono ?_)
  rintro e w0 ⟨rfl, rfl⟩
  go_wp2_with (fail)
  go_must (refine HG.out.mono ?_)
  rintro e w3 ⟨A3, n3, d3, gs, rfl, hs3, hn3, hl3, hb3⟩
  have HB3 := Lib.hid (HB2.out.below' hb3)
  have hnl : n3 ≤ 1000 := by
    rw [hn3, ← HA.out.2.1.1]
    exact HA.out.2.2.2.2
  have HM3 := Lib.hid (markedPairs_any A3 n3 d3 gs (marksL ls 72) w3 hs3 hl3 (marksL_ok fun i l e => by have := HA.out.2.2.2.1 i l e; omega) hnl)
  have HM4 := Lib.hid (fun V (hb : Below w3.heap.size w3 V) => markedPairs_any Ap ms.length cp ms (marksL ls 0) V (((Sl.of_own HA2.out.1.pr).below hb3).below hb) ((HA2.out.2.sl.below hb3).below hb) (marksL_ok fun i l e => by have := HA.out.2.2.2.1 i l e; omega) HA.out.2.2.2.2)
  have HK3 := Lib.hid (HK2.out.trans (S' := fun _ => False) (Keeps.of_below hb3) fun _ _ h => h.elim)
  clear hs3 hn3 hl3 hb3
  go_wp2_with (fail)
  go_must (refine (growEntries_nil (HB3.out.cell 10)).mono ?_)
  rintro e w0 ⟨rfl, rfl⟩
  go_wp2_with (fail)
  go_must (refine (growMsgs_nil (HB3.out.cell 12)).mono ?_)
  rintro e w0 ⟨rfl, rfl⟩
  go_wp2_with (fail)
  go_must (refine (growDues_nil (HB3.out.cell 14)).mono ?_)
  rintro e w0 ⟨rfl, rfl⟩
  go_wp2_with (fail)
  go_must (refine (growPackets_nil (HB3.out.cell 16)).mono ?_)
  rintro e w0 ⟨rfl, rfl⟩
  go_wp2_with (fail)
  go_must (refine (growEvents_nil (HB3.out.cell 18)).mono ?_)
  rintro e w0 ⟨rfl, rfl⟩
  go_wp2_with (fail)
  go_must (refine (growSteps_nil (HB3.out.cell 20)).mono ?_)
  rintro e w0 ⟨rfl, rfl⟩
  go_wp2_with (fail)
  go_must (refine (markedTexts_nil _).mono ?_)
  rintro e w0 ⟨rfl, rfl⟩
  have c0 : w3.cell? ⟨g, 0, none⟩ = some (.slice none 0 0) := HB3.out.cell 0
  go_wp2_with (fail)
  go_must (refine (markedTexts_nil _).mono ?_)
  rintro e w0 ⟨rfl, rfl⟩
  clear c0
  go_wp2_with (fail)
  go_must (refine (markedInts_nil _).mono ?_)
  rintro e w0 ⟨rfl, rfl⟩
  have c2 : w3.cell? ⟨g, 2, none⟩ = some (.slice none 0 0) := HB3.out.cell 2
  go_wp2_with (fail)
  go_must (refine (markedInts_nil _).mono ?_)
  rintro e w0 ⟨rfl, rfl⟩
  clear c2
  go_wp2_with (fail)
  go_must (refine (markedItems_nil _).mono ?_)
  rintro e w0 ⟨rfl, rfl⟩
  have c4 : w3.cell? ⟨g, 4, none⟩ = some (.slice none 0 0) := HB3.out.cell 4
  go_wp2_with (fail)
  go_must (refine (markedItems_nil _).mono ?_)
  rintro e w0 ⟨rfl, rfl⟩
  clear c4
  go_wp2_with (fail)
  go_must (refine (markedChildren_nil _).mono ?_)
  rintro e w0 ⟨rfl, rfl⟩
  have c6 : w3.cell? ⟨g, 6, none⟩ = some (.slice none 0 0) := HB3.out.cell 6
  go_wp2_with (fail)
  go_must (refine (markedChildren_nil _).mono ?_)
  rintro e w0 ⟨rfl, rfl⟩
  clear c6
  go_wp2_with (fail)
  go_must (refine HM3.out.mono ?_)
  rintro e w4 ⟨rfl, hb4⟩
  have HM5 := Lib.hid (HM4.out w4 hb4)
  have HB4 := Lib.hid (HB3.out.below' hb4)
  have HK4 := Lib.hid (HK3.out.trans (S' := fun _ => False) (Keeps.of_below hb4) fun _ _ h => h.elim)
  have c8 : w4.cell? ⟨g, 8, none⟩ = some (.slice Ap ms.length cp) := HB4.out.cell 8
  clear hb4
  go_wp2_with (fail)
  go_must (refine HM5.out.mono ?_)
  rintro e w5 ⟨rfl, hb5⟩
  have HB5 := Lib.hid (HB4.out.below' hb5)
  have HK5 := Lib.hid (HK4.out.trans (S' := fun _ => False) (Keeps.of_below hb5) fun _ _ h => h.elim)
  clear hb5 c8
  go_wp2_with (fail)
  go_must (refine (markedEntries_nil _).mono ?_)
  rintro e w0 ⟨rfl, rfl⟩
  have c10 : w5.cell? ⟨g, 10, none⟩ = some (.slice none 0 0) := HB5.out.cell 10
  go_wp2_with (fail)
  go_must (refine (markedEntries_nil _).mono ?_)
  rintro e w0 ⟨rfl, rfl⟩
  clear c10
  go_wp2_with (fail)
  go_must (refine (markedMsgs_nil _).mono ?_)
  rintro e w0 ⟨rfl, rfl⟩
  have c12 : w5.cell? ⟨g, 12, none⟩ = some (.slice none 0 0) := HB5.out.cell 12
  go_wp2_with (fail)
  go_must (refine (markedMsgs_nil _).mono ?_)
  rintro e w0 ⟨rfl, rfl⟩
  clear c12
  go_wp2_with (fail)
  go_must (refine (markedDues_nil _).mono ?_)
  rintro e w0 ⟨rfl, rfl⟩
  have c14 : w5.cell? ⟨g, 14, none⟩ = some (.slice none 0 0) := HB5.out.cell 14
  go_wp2_with (fail)
  go_must (refine (markedDues_nil _).mono ?_)
  rintro e w0 ⟨rfl, rfl⟩
  clear c14
  go_wp2_with (fail)
  go_must (refine (markedPackets_nil _).mono ?_)
  rintro e w0 ⟨rfl, rfl⟩
  have c16 : w5.cell? ⟨g, 16, none⟩ = some (.slice none 0 0) := HB5.out.cell 16
  go_wp2_with (fail)
  go_must (refine (markedPackets_nil _).mono ?_)
  rintro e w0 ⟨rfl, rfl⟩
  clear c16
  go_wp2_with (fail)
  go_must (refine (markedEvents_nil _).mono ?_)
  rintro e w0 ⟨rfl, rfl⟩
  have c18 : w5.cell? ⟨g, 18, none⟩ = some (.slice none 0 0) := HB5.out.cell 18
  go_wp2_with (fail)
  go_must (refine (markedEvents_nil _).mono ?_)
  rintro e w0 ⟨rfl, rfl⟩
  clear c18
  go_wp2_with (fail)
  go_must (refine (markedSteps_nil _).mono ?_)
  rintro e w0 ⟨rfl, rfl⟩
  have c20 : w5.cell? ⟨g, 20, none⟩ = some (.slice none 0 0) := HB5.out.cell 20
  go_wp2_with (fail)
  go_must (refine (markedSteps_nil _).mono ?_)
  rintro e w0 ⟨rfl, rfl⟩
  clear c20
  go_wp2_with (fail)
  go_ret
  exact ⟨rfl, HK5.out⟩
end Go.Ev

set_option linter.unusedVariables false
set_option linter.unusedSimpArgs false
namespace Go.Ev
open Go.Proofs Go.RowKit

/-- Lists, each in a row of one's own. -/
def RowsO (W : World) (B : Nat) (ws : List Value) (ls : List (List Pair)) : Prop := ws.length = ls.length ∧ ∀ (i : Nat) (v : Value) (l : List Pair), ws[i]? = some v → ls[i]? = some l → W.ownsRow B 44 2 v l.length (pairsCs l)

section
variable {W W' : World} {B B2 g : Nat} {pv wv : Value} {ms ws : List Value}

theorem RowsO.sl {ls : List (List Pair)} (h : RowsO W B ws ls) : SlL W ws ls := ⟨h.1, fun i v l h1 h2 => Sl.of_own (h.2 i v l h1 h2)⟩
theorem RowsO.below {ls : List (List Pair)} (h : RowsO W B ws ls) (hb : Below W.heap.size W W') : RowsO W' B ws ls := ⟨h.1, fun i v l h1 h2 => own_below (h.2 i v l h1 h2) hb⟩

theorem own_far {n : Nat} {v : Value} {l : List Pair} (h : W.ownsRow B2 44 2 v n (pairsCs l)) (hk : BookAt W B g pv wv ms ws) : ∀ k, v.ownBlock = some k → ¬ BookS g pv wv k := by
  rintro k h2 (rfl | hs | hs)
  · exact own_ne h hk.blk (by decide) _ h2 rfl
  · exact own_apart h hk.pr (by decide) k h2 hs
  · exact own_apart h hk.wr (by decide) k h2 hs

theorem ClipAt.far {v : Value} {l : List Pair} (h : ClipAt W B2 v l) (hk : BookAt W B g pv wv ms ws) : ∀ k, v.ownBlock = some k → ¬ BookS g pv wv k := by
  obtain ⟨u, h1, rfl⟩ := h
  intro k hk2
  rw [clip_own] at hk2
  exact own_far h1 hk k hk2

theorem RowsO.keepsB {ls : List (List Pair)} (h : RowsO W B2 ws ls) (hk : BookAt W B g pv wv ms ws) (hK : Keeps (BookS g pv wv) W W') : RowsO W' B2 ws ls :=
  ⟨h.1, fun i v l h1 h2 => own_keeps (h.2 i v l h1 h2) hK fun k e => own_far (h.2 i v l h1 h2) hk k e⟩
theorem RowsAt.keepsB {ls : List (List Pair)} (h : RowsAt W B2 ms ls) (hk : BookAt W B g pv wv ms ws) (hK : Keeps (BookS g pv wv) W W') : RowsAt W' B2 ms ls :=
  ⟨h.1, fun i v l h1 h2 => (h.2 i v l h1 h2).keeps hK fun k e => (h.2 i v l h1 h2).far hk k e⟩

theorem ClipAt.lt {v : Value} {l : List Pair} (h : ClipAt W B v l) : ∀ k, v.ownBlock = some k → B ≤ k ∧ k < W.heap.size := by
  obtain ⟨u, h1, rfl⟩ := h
  intro k hk
  rw [clip_own] at hk
  exact h1.lt k hk

theorem ClipAt.base {v : Value} {l : List Pair} (h : ClipAt W B v l) (hB : B2 ≤ B) : ClipAt W B2 v l := by
  obtain ⟨u, h1, h2⟩ := h
  exact ⟨u, own_base h1 hB, h2⟩

/-- A book into which the same list was put so often. -/
structure Kp (B g : Nat) (R : List Pair) (k : Nat) (W : World) (pv wv : Value) (ms ws : List Value) : Prop where
  bk : BookAt W B g pv wv ms ws
  lm : ms.length = k
  lw : ws.length = k
  rows : RowsAt W B ms (List.replicate k R)
  was : RowsO W B ws (List.replicate k R)
  ap : Apart ms
  size : B ≤ W.heap.size

theorem Kp.below {R : List Pair} {k : Nat} (h : Kp B g R k W pv wv ms ws) (hb : Below W.heap.size W W') : Kp B g R k W' pv wv ms ws :=
  ⟨h.bk.below hb, h.lm, h.lw, h.rows.below hb, h.was.below hb, h.ap, Nat.le_trans h.size hb.size⟩

theorem Kp.new (W : World) (R : List Pair) : Kp W.heap.size W.heap.size R 0 (W.alloc (.cells (bookCs (.slice none 0 0) (.slice none 0 0)) 61)) (.slice none 0 0) (.slice none 0 0) [] [] :=
  ⟨⟨Blk.new _ _ _, World.ownsRow_nil _ _ _ _, World.ownsRow_nil _ _ _ _, (fun k h => by cases h), Nat.le_refl _⟩, rfl, rfl, ⟨rfl, (fun i v l h => by simp at h)⟩, ⟨rfl, (fun i v l h => by simp at h)⟩, (fun i j v u h => by simp at h), by simp⟩

theorem rep_at {α : Type} {R l : α} {k i : Nat} (h : (List.replicate k R)[i]? = some l) : l = R ∧ i < k := by
  rw [List.getElem?_replicate] at h
  split at h
  · exact ⟨(Option.some.inj h).symm, by assumption⟩
  · cases h

/-- One more. -/
theorem Kp.step {R : List Pair} {k : Nat} {w3 w4 : World} {A : Option Addr} {e : Ending} (h : Kp B g R k W pv wv ms ws) (hb : Below W.heap.size W w3) (hc : ClipAt w3 W.heap.size (.slice A R.length R.length) R)
    (hp : BookPairsP B g pv wv ms ws (.slice A R.length R.length) R.length R w3 e w4) : e = .returned (.tuple #[]) ∧ ∃ pv' wv' ms' ws', Kp B g R (k + 1) w4 pv' wv' ms' ws' ∧ Below B w3 w4 ∧ ClipAt w4 W.heap.size (.slice A R.length R.length) R := by
  obtain ⟨rfl, pv', wv', x, hbk, hx, hK⟩ := hp
  have hz := hb.size
  have h3 := h.below hb
  have hc4 := hc.keeps hK (hc.far h3.bk)
  refine ⟨rfl, pv', wv', _, _, ⟨hbk, by simp [h.lm], by simp [h.lw], ⟨by simp [h.lm], fun i v l h1 h2 => ?_⟩, ⟨by simp [h.lw], fun i v l h1 h2 => ?_⟩, ?_, Nat.le_trans h3.size hK.size⟩, hK.below h3.size (fun i hi hs => by have := (h3.bk.lt i hs).1; omega), hc4⟩
  · obtain ⟨rfl, hik⟩ := rep_at h2
    rw [List.getElem?_append] at h1
    split at h1
    · exact (h3.rows.keepsB h3.bk hK).2 i v l h1 (by rw [List.getElem?_replicate, if_pos (by rw [h.lm] at *; assumption)])
    · have hj : i - ms.length < 1 := (List.getElem?_eq_some_iff.1 h1).1
      rw [show i - ms.length = 0 by omega] at h1
      cases h1
      exact hc4.base h.size
  · obtain ⟨rfl, hik⟩ := rep_at h2
    rw [List.getElem?_append] at h1
    split at h1
    · exact (h3.was.keepsB h3.bk hK).2 i v l h1 (by rw [List.getElem?_replicate, if_pos (by rw [h.lw] at *; assumption)])
    · have hj : i - ws.length < 1 := (List.getElem?_eq_some_iff.1 h1).1
      rw [show i - ws.length = 0 by omega] at h1
      cases h1
      exact own_base hx (Nat.le_trans h3.size (Nat.le_refl _))
  · have hlow : ∀ (i : Nat) (v : Value), ms[i]? = some v → ∀ q, v.ownBlock = some q → q < W.heap.size := fun i v hv q hq => by
      have hi : i < k := by rw [← h.lm]; exact (List.getElem?_eq_some_iff.1 hv).1
      exact ((h.rows.2 i v R hv (by rw [List.getElem?_replicate, if_pos hi])).lt q hq).2
    intro i j v u h1 h2 hij q hq hq2
    rw [List.getElem?_append] at h1 h2
    split at h1
    · split at h2
      · exact h.ap i j v u h1 h2 hij q hq hq2
      · have hj : j - ms.length < 1 := (List.getElem?_eq_some_iff.1 h2).1
        rw [show j - ms.length = 0 by omega] at h2
        cases h2
        have := hlow i v h1 q hq
        have := (hc.lt q hq2).1
        omega
    · split at h2
      · have hj : i - ms.length < 1 := (List.getElem?_eq_some_iff.1 h1).1
        rw [show i - ms.length = 0 by omega] at h1
        cases h1
        have := hlow j u h2 q hq2
        have := (hc.lt q hq).1
        omega
      · have hj : i - ms.length < 1 := (List.getElem?_eq_some_iff.1 h1).1
        have hj2 : j - ms.length < 1 := (List.getElem?_eq_some_iff.1 h2).1
        omega

/-- The call that keeps one more. -/
theorem Kp.pairs {R : List Pair} {k : Nat} {w3 : World} {A : Option Addr} (h : Kp B g R k W pv wv ms ws) (hb : Below W.heap.size W w3) (hc : ClipAt w3 W.heap.size (.slice A R.length R.length) R) (hk : k ≤ 200) (hR : R.length ≤ 9000) :
    Calls Tryz.prog 22 #[ptrV g, .slice A R.length R.length] w3 fun e w4 => e = .returned (.tuple #[]) ∧ ∃ pv' wv' ms' ws', Kp B g R (k + 1) w4 pv' wv' ms' ws' ∧ Below B w3 w4 ∧ ClipAt w4 W.heap.size (.slice A R.length R.length) R := by
  obtain ⟨A', e, hA, hs⟩ := hc.sl
  cases e
  have h3 := h.below hb
  exact (bookPairs_any A R.length R.length R h3.bk h3.size (by rw [h.lm]; exact hk) (by rw [h.lw]; exact hk) hs hA (by omega) fun b o e => hc.far h3.bk b (by rw [e]; rfl)).mono fun e w4 hp => h.step hb hc hp

theorem Kp.apart {R : List Pair} {k : Nat} (h : Kp B g R k W pv wv ms ws) (hk : k ≤ 200) (hR : R.length ≤ 9000) :
    Calls Tryz.prog 24 #[ptrV g] W fun e w' => e = .returned (.bool true) ∧ Below B W w' :=
  (apart_any (List.replicate k R) h.bk h.rows h.was.sl h.ap (fun i l e => by rw [(rep_at e).1]; exact hR) (by rw [h.lm]; omega)).mono fun e w' ⟨h1, hK⟩ => ⟨h1, hK.below h.size fun q hq hs => by
    obtain ⟨i, v, h2, h3⟩ := hs
    have hi : i < k := by rw [← h.lm]; exact (List.getElem?_eq_some_iff.1 h2).1
    have := ((h.rows.2 i v R h2 (by rw [List.getElem?_replicate, if_pos hi])).lt q h3).1
    omega⟩
end
end Go.Ev
