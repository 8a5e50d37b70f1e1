/-
  A receiver (snap): a piece that begins anew; a message whatever it is; its pairs. A receiver takes a message (snap.Take), whatever it is. A book of lists of pairs: marks; a list is kept with a copy.                  A book of lists of pairs: are they as they were, are they marked? A book of lists of pairs: all lists are marked where they lie. A book of lists of pairs: all lists grow.  A book into which a range is put, twice. A book of lists of pairs that are rows of one's own: marks are put into them. (Printed by booko_print.py out of GwBook3.)
-/
import Derived.Test.YthfdbfbfldmmaaaGreatDoorMGwSnapTake
import Derived.Test.YthfdbfbfldmmaaaGreatDoorMGvTake
import Derived.Test.YthfdbfbfldmmaaaGreatDoorMGvAppendE
import Derived.RangeFuncNested
import Derived.RangeFuncBound
import Derived.RangeFuncCalls
import Derived.RangeFuncLeaves
import Derived.Shelf.Abstract
import Derived.Shelf.RegionOpen
import Derived.WalkKit
import Derived.OwnWalkIn
import Derived.TacticsInMore
import Derived.LoopNIn
import Derived.LoopIn
set_option linter.unusedVariables false
set_option linter.unusedSimpArgs false
set_option linter.unusedVariables false
set_option linter.unusedSimpArgs false
namespace Go.Ev
open Go.Proofs Go.RowKit
set_option maxHeartbeats 16000000 in
set_option maxRecDepth 100000 in
theorem takes_first (B b : Nat) (bg : Bool) (fr ix tm : Int) (mem : Value) (done : Bool) (ch : Option Nat) (pv : Value) (n : Nat) (xs : List Value) (m : MsgV) (w : World) (h : RcvAt w B b bg fr ix tm mem done ch pv n xs) (h0 : m.off = 0)
    (hC : ∀ W, Keeps (fun k => k = b) w W → Calls Tryz.prog 75 #[m.mems] W fun e w' => ∃ A' n' c', e = .returned (.slice A' n' c') ∧ Below W.heap.size W w') :
    Calls Tryz.prog 21 #[.pointer (some ⟨b, 0, none⟩), .agg m.cs] w fun e w' => e = .returned (.bool true) ∧ (∃ mem', RcvAt w' B b true m.fr m.ix m.tm mem' false ch (.slice none 0 0) 0 []) ∧ Keeps (fun k => k = b) w w' := by
  obtain ⟨kind, mfr, dst, term, mix, mtm, commit, round, ok, mdone, ents, mems, off, pairs⟩ := m
  simp only at h0
  subst h0
  simp only [MsgV.cs]
  obtain ⟨vs, hvs⟩ : ∃ vs : Array Value, vs = #[.int .i64 kind, .int .i64 mfr, dst, term, .int .i64 mix, .int .i64 mtm, commit, round, ok, .bool mdone, ents, mems, .int .i64 0, pairs] := ⟨_, rfl⟩
  have hb : Blk (w.alloc (.cells vs 51)) b 33 (rcvCs bg fr ix tm mem done ch pv) := h.blk.alloc _
  have hm : Blk (w.alloc (.cells vs 51)) w.heap.size 51 vs := Blk.new _ _ _
  rw [hvs] at hm hb
  clear hvs
  have hlt := h.blk.lt
  have H := Lib.hid h
  have HC := Lib.hid hC
  clear h hC
  go_enter Tryz.func21, Tryz.ntmps21
  go_wp2_with (fail)
  have e1 := hm.cell 1; have e4 := hm.cell 4; have e5 := hm.cell 5
  simp only [rcvCs, List.getElem?_toArray, List.getElem?_cons_succ, List.getElem?_cons_zero] at e1 e4 e5
  have f0 : w.frozen? ⟨b, 0, none⟩ = false := H.out.blk.frozen 0
  have r0 : w.cell? ⟨b, 0, none⟩ = some (.bool bg) := H.out.blk.cell 0
  have f1 : w.frozen? ⟨b, 1, none⟩ = false := H.out.blk.frozen 1
  have r1 : w.cell? ⟨b, 1, none⟩ = some (.int .i64 fr) := H.out.blk.cell 1
  have f2 : w.frozen? ⟨b, 2, none⟩ = false := H.out.blk.frozen 2
  have r2 : w.cell? ⟨b, 2, none⟩ = some (.int .i64 ix) := H.out.blk.cell 2
  have f3 : w.frozen? ⟨b, 3, none⟩ = false := H.out.blk.frozen 3
  have r3 : w.cell? ⟨b, 3, none⟩ = some (.int .i64 tm) := H.out.blk.cell 3
  go_region
  go_wp2_with (fail)
  have hblk1 := (((H.out.blk.set 0 (.bool true)).set 1 (.int .i64 mfr)).set 2 (.int .i64 mix)).set 3 (.int .i64 mtm)
  have hk1 : Keeps (fun k => k = b) w ((((w.setCell ⟨b, 0, none⟩ (.bool true)).setCell ⟨b, 1, none⟩ (.int .i64 mfr)).setCell ⟨b, 2, none⟩ (.int .i64 mix)).setCell ⟨b, 3, none⟩ (.int .i64 mtm)) := ((((Keeps.refl (fun k => k = b) w).setCell (p := ⟨b, 0, none⟩) (fun _ => rfl) _).setCell (p := ⟨b, 1, none⟩) (fun _ => rfl) _).setCell (p := ⟨b, 2, none⟩) (fun _ => rfl) _).setCell (p := ⟨b, 3, none⟩) (fun _ => rfl) _
  go_must (refine (HC.out _ (hk1.alloc _).drew).mono ?_)
  rintro e w2 ⟨A', n', c', rfl, hb2⟩
  have hblk2 := ((hblk1.alloc _).drew).below' hb2
  have hk2 := ((hk1.alloc _).drew).trans (Keeps.of_below (S := fun k => k = b) hb2) (fun _ _ h => h)
  have hlt2 := hblk2.lt
  have f4 : w2.frozen? ⟨b, 4, none⟩ = false := hblk2.frozen 4
  have f5 : w2.frozen? ⟨b, 5, none⟩ = false := hblk2.frozen 5
  have f7 : w2.frozen? ⟨b, 7, none⟩ = false := hblk2.frozen 7
  have r4 : w2.cell? ⟨b, 4, none⟩ = some mem := hblk2.cell 4
  have r5 : w2.cell? ⟨b, 5, none⟩ = some (.bool done) := hblk2.cell 5
  have r7 : w2.cell? ⟨b, 7, none⟩ = some pv := hblk2.cell 7
  go_wp2_with (fail)
  go_ret
  have hblk3 := ((hblk2.set 4 (.slice A' n' c')).set 7 (.slice none 0 0)).set 5 (.bool false)
  have hk3 := ((hk2.setCell (p := ⟨b, 4, none⟩) (fun _ => rfl) (.slice A' n' c')).setCell (p := ⟨b, 7, none⟩) (fun _ => rfl) (.slice none 0 0)).setCell (p := ⟨b, 5, none⟩) (fun _ => rfl) (.bool false)
  refine ⟨rfl, ⟨_, ⟨hblk3, World.ownsRow_nil _ _ _ _, fun c e => ?_, H.out.low, by simp [Value.ownBlock]⟩⟩, hk3⟩
  obtain ⟨⟨s, r, hc⟩, hB⟩ := H.out.chan c e
  have hcb : ¬ c = b := fun e => by
    have h2 : w.heap[b]? = _ := H.out.blk
    rw [← e, hc] at h2
    cases h2
  exact ⟨⟨s, r, (hk3.block c (Array.getElem?_eq_some_iff.1 hc).1 hcb).trans hc⟩, hB⟩
end Go.Ev

set_option linter.unusedVariables false
set_option linter.unusedSimpArgs false
namespace Go.Ev
open Go.Proofs Go.RowKit
structure RcM where
  bg : Bool
  fr : Int
  ix : Int
  tm : Int
  done : Bool
  n : Nat
  xs : List Value
def RcM.fits (s : RcM) (m : MsgV) : Bool := s.bg && m.fr == s.fr && m.ix == s.ix && m.tm == s.tm && !s.done && m.off == (s.n : Int)
def RcM.take (s : RcM) (m : MsgV) (k : Nat) (qs : List Value) : RcM :=
  if m.kind == 5 then
    if m.off == 0 then ⟨true, m.fr, m.ix, m.tm, m.done, k, qs⟩
    else if s.fits m then { s with n := s.n + k, xs := s.xs ++ qs, done := m.done } else s
  else s
def RcvIs (W : World) (B b : Nat) (s : RcM) (mem : Value) (ch : Option Nat) (pv : Value) : Prop := RcvAt W B b s.bg s.fr s.ix s.tm mem s.done ch pv s.n s.xs
def RcvTakeP (B b : Nat) (ch : Option Nat) (pv : Value) (s : RcM) (w : World) (e : Ending) (w' : World) : Prop :=
  e = .returned (.tuple #[.int .i64 s.n, .bool s.done]) ∧ Keeps (RcvS b ch pv) w w' ∧ ∃ mem' ch' pv', RcvIs w' B b s mem' ch' pv' ∧ (∀ k, ch' = some k → ch = some k ∨ w.heap.size ≤ k) ∧ (∀ k, pv'.ownBlock = some k → pv.ownBlock = some k ∨ w.heap.size ≤ k)
theorem RcvAt.drew {W : World} {B b : Nat} {bg : Bool} {fr ix tm : Int} {mem : Value} {done : Bool} {ch : Option Nat} {pv : Value} {n : Nat} {xs : List Value} (h : RcvAt W B b bg fr ix tm mem done ch pv n xs) : RcvAt W.drew B b bg fr ix tm mem done ch pv n xs :=
  ⟨h.blk, h.row, h.chan, h.low, h.far⟩
theorem RcvAt.done' {W : World} {B b : Nat} {bg : Bool} {fr ix tm : Int} {mem : Value} {done : Bool} {ch : Option Nat} {pv : Value} {n : Nat} {xs : List Value} (h : RcvAt W B b bg fr ix tm mem done ch pv n xs) (d : Bool) : RcvAt (W.setCell ⟨b, 5, none⟩ (.bool d)) B b bg fr ix tm mem d ch pv n xs := by
  have hk : Keeps (fun k => k = b) W (W.setCell ⟨b, 5, none⟩ (.bool d)) := Keeps.setCell (p := ⟨b, 5, none⟩) (Keeps.refl (fun k => k = b) W) (fun _ => rfl) _
  refine ⟨h.blk.set 5 _, own_keeps h.row hk (fun k e e2 => h.far (e2 ▸ e)), fun c e => ?_, h.low, h.far⟩
  obtain ⟨⟨s, r, hc⟩, hB⟩ := h.chan c e
  have hcb : ¬ c = b := fun e => by
    have h2 : W.heap[b]? = _ := h.blk
    rw [← e, hc] at h2
    cases h2
  exact ⟨⟨s, r, (hk.block c (Array.getElem?_eq_some_iff.1 hc).1 hcb).trans hc⟩, hB⟩
theorem RcvAt.below {W W' : World} {B b : Nat} {bg : Bool} {fr ix tm : Int} {mem : Value} {done : Bool} {ch : Option Nat} {pv : Value} {n : Nat} {xs : List Value} (h : RcvAt W B b bg fr ix tm mem done ch pv n xs) (hb : Below W.heap.size W W') : RcvAt W' B b bg fr ix tm mem done ch pv n xs :=
  ⟨h.blk.below' hb, own_keeps (S := fun _ => False) h.row (Keeps.of_below hb) (fun _ _ h => h), fun c e => ⟨by
    obtain ⟨s, r, hc⟩ := (h.chan c e).1
    exact ⟨s, r, (hb.block c (Array.getElem?_eq_some_iff.1 hc).1).trans hc⟩, (h.chan c e).2⟩, h.low, h.far⟩
set_option maxHeartbeats 16000000 in
set_option maxRecDepth 100000 in
theorem take_ok (B b : Nat) (s : RcM) (mem : Value) (ch : Option Nat) (pv : Value) (m : MsgV) (A : Option Addr) (k c : Nat) (qs : List Value) (w : World) (h : RcvIs w B b s mem ch pv) (hB : B ≤ w.heap.size) (hp : m.pairs = .slice A k c) (hn : s.n ≤ 100000) (hk : k ≤ 100000) (h1q : ∀ u ∈ qs, u.oneCell' = true)
    (hCM : ∀ W, Keeps (fun k => k = b) w W → Calls Tryz.prog 75 #[m.mems] W fun e w' => ∃ A' n' c', e = .returned (.slice A' n' c') ∧ Below W.heap.size W w')
    (hCP : ∀ W, Keeps (RcvS b ch pv) w W → CloneSays W A k c qs) :
    Calls Tryz.prog 8 #[.pointer (some ⟨b, 0, none⟩), .agg m.cs] w (RcvTakeP B b ch pv (s.take m k qs) w) := by
  have hlt := h.blk.lt
  have hvs : m.cs = #[.int .i64 m.kind, .int .i64 m.fr, m.dst, m.term, .int .i64 m.ix, .int .i64 m.tm, m.commit, m.round, m.ok, .bool m.done, m.ents, m.mems, .int .i64 m.off, .slice A k c] := by rw [← hp]; rfl
  have hm : Blk (w.alloc (.cells #[.int .i64 m.kind, .int .i64 m.fr, m.dst, m.term, .int .i64 m.ix, .int .i64 m.tm, m.commit, m.round, m.ok, .bool m.done, m.ents, m.mems, .int .i64 m.off, .slice A k c] 51)) w.heap.size 51 #[.int .i64 m.kind, .int .i64 m.fr, m.dst, m.term, .int .i64 m.ix, .int .i64 m.tm, m.commit, m.round, m.ok, .bool m.done, m.ents, m.mems, .int .i64 m.off, .slice A k c] := Blk.new _ _ _
  have h1 : RcvIs (w.alloc (.cells #[.int .i64 m.kind, .int .i64 m.fr, m.dst, m.term, .int .i64 m.ix, .int .i64 m.tm, m.commit, m.round, m.ok, .bool m.done, m.ents, m.mems, .int .i64 m.off, .slice A k c] 51)) B b s mem ch pv := RcvAt.below h ((Below.refl _ w).alloc (Nat.le_refl _) _)
  have hK1 : Keeps (RcvS b ch pv) w (w.alloc (.cells #[.int .i64 m.kind, .int .i64 m.fr, m.dst, m.term, .int .i64 m.ix, .int .i64 m.tm, m.commit, m.round, m.ok, .bool m.done, m.ents, m.mems, .int .i64 m.off, .slice A k c] 51)) := (Keeps.refl _ w).alloc _
  have hK00 := hK1
  have hK0 : Keeps (fun k => k = b) w (w.alloc (.cells #[.int .i64 m.kind, .int .i64 m.fr, m.dst, m.term, .int .i64 m.ix, .int .i64 m.tm, m.commit, m.round, m.ok, .bool m.done, m.ents, m.mems, .int .i64 m.off, .slice A k c] 51)) := (Keeps.refl (fun k => k = b) w).alloc _
  have TF := fun h0 => takes_first B b s.bg s.fr s.ix s.tm mem s.done ch pv s.n s.xs m (w.alloc (.cells #[.int .i64 m.kind, .int .i64 m.fr, m.dst, m.term, .int .i64 m.ix, .int .i64 m.tm, m.commit, m.round, m.ok, .bool m.done, m.ents, m.mems, .int .i64 m.off, .slice A k c] 51)) h1 h0 (fun W hk => hCM W (hK0.trans hk (fun _ _ h => h)))
  have TN := fun h0 => takes_next B b s.bg s.fr s.ix s.tm mem s.done ch pv s.n s.xs m (w.alloc (.cells #[.int .i64 m.kind, .int .i64 m.fr, m.dst, m.term, .int .i64 m.ix, .int .i64 m.tm, m.commit, m.round, m.ok, .bool m.done, m.ents, m.mems, .int .i64 m.off, .slice A k c] 51)) h1 h0
  have hbox : ¬ RcvS b ch pv w.heap.size := fun hs => by
    rcases hs with hs | hs | hs
    · omega
    · obtain ⟨⟨_, _, hc⟩, _⟩ := h.chan _ hs
      have := (Array.getElem?_eq_some_iff.1 hc).1
      omega
    · rcases h.row.2 with ⟨e3, _⟩ | ⟨g, cap, cur, e3, _, hg, _⟩
      · rw [e3] at hs; cases hs
      · rw [e3] at hs
        have hs : g = w.heap.size := by simpa [Value.ownBlock] using hs
        have := (Array.getElem?_eq_some_iff.1 hg).1
        omega
  rw [hvs] at TF TN ⊢
  have HTF := Lib.hid TF
  have HTN := Lib.hid TN
  have HCP := Lib.hid hCP
  clear hvs
  have H1 := Lib.hid h1
  have HB := Lib.hid (And.intro hB (And.intro hn (And.intro hk h1q)))
  clear TF TN hCP hCM h1 hB hn hk h1q h
  have r5 : (w.alloc (.cells #[.int .i64 m.kind, .int .i64 m.fr, m.dst, m.term, .int .i64 m.ix, .int .i64 m.tm, m.commit, m.round, m.ok, .bool m.done, m.ents, m.mems, .int .i64 m.off, .slice A k c] 51)).cell? ⟨b, 5, none⟩ = some (.bool s.done) := H1.out.blk.cell 5
  have r7 : (w.alloc (.cells #[.int .i64 m.kind, .int .i64 m.fr, m.dst, m.term, .int .i64 m.ix, .int .i64 m.tm, m.commit, m.round, m.ok, .bool m.done, m.ents, m.mems, .int .i64 m.off, .slice A k c] 51)).cell? ⟨b, 7, none⟩ = some pv := H1.out.blk.cell 7
  obtain ⟨A0, c0', hpv, -⟩ := Sl.of_own H1.out.row
  subst hpv
  cases hk5 : (m.kind == 5) with
  | false =>
    have hR : s.take m k qs = s := by simp [RcM.take, hk5]
    go_enter Tryz.func8, Tryz.ntmps8
    go_wp2_with (fail)
    go_region
    go_wp2_with (fail)
    go_ret2
    rw [hR]
    exact ⟨rfl, hK1.drew, _, _, _, H1.out.drew, fun k e => .inl e, fun k e => .inl e⟩
  | true =>
    cases h0 : (m.off == 0) with
    | true =>
      have hoff : m.off = 0 := by simpa using h0
      have hR : s.take m k qs = ⟨true, m.fr, m.ix, m.tm, m.done, k, qs⟩ := by simp [RcM.take, hk5, h0]
      have HT := Lib.hid (HTF.out hoff)
      clear HTF HTN hoff
      go_enter Tryz.func8, Tryz.ntmps8
      go_wp2_with (fail)
      go_must (refine HT.out.mono ?_)
      rintro e w2 ⟨rfl, ⟨mem2, hR2⟩, hk20⟩
      have hkw : Keeps (RcvS b ch (.slice A0 s.n c0')) w w2 := hK1.trans (hk20.mono (fun i hi h => .inl h)) (fun i hi hs => hs)
      have hz2 := hk20.size
      have hm2 := hm.keeps hk20 (fun e => hbox (.inl e))
      have e9 : w2.cell? ⟨w.heap.size, 9, none⟩ = some (.bool m.done) := hm2.cell 9
      have e13 : w2.cell? ⟨w.heap.size, 13, none⟩ = some (.slice A k c) := hm2.cell 13
      have HP := Lib.hid (put_ok B b true m.fr m.ix m.tm mem2 false ch (.slice none 0 0) 0 k c [] qs A w2 hR2 (Nat.le_trans HB.out.1 (Nat.le_trans hK1.size hz2)) (by have := HB.out.2.1; omega) HB.out.2.2.1 HB.out.2.2.2 (fun W hW => HCP.out W (hkw.trans hW (fun i hi hs => hs.elim .inl (fun h => h.elim (fun h => .inr (.inl h)) (fun h => by cases h))))))
      go_wp2_with (fail)
      go_must (refine HP.out.mono ?_)
      rintro e w3 ⟨c1, pv3, rfl, hR3, hc3, hat3, hk3⟩
      obtain ⟨A3, c3, rfl, -⟩ := Sl.of_own hR3.row
      have hm3 := hm2.keeps hk3 (fun hs => hbox (hs.elim .inl (fun h => h.elim (fun h => .inr (.inl h)) (fun h => by cases h))))
      have e9 : w3.cell? ⟨w.heap.size, 9, none⟩ = some (.bool m.done) := hm3.cell 9
      have r5 : w3.cell? ⟨b, 5, none⟩ = some (.bool false) := hR3.blk.cell 5
      have f5 : w3.frozen? ⟨b, 5, none⟩ = false := hR3.blk.frozen 5
      have hlt3 := hR3.blk.lt
      have HR4 := Lib.hid (hR3.done' m.done)
      have HR3 := Lib.hid (And.intro hR3 (And.intro hc3 (And.intro hat3 hk3)))
      clear hR3 hc3 hat3 hk3
      go_wp2_with (fail)
      have r5 : (w3.setCell ⟨b, 5, none⟩ (.bool m.done)).cell? ⟨b, 5, none⟩ = some (.bool m.done) := HR4.out.blk.cell 5
      have r7 : (w3.setCell ⟨b, 5, none⟩ (.bool m.done)).cell? ⟨b, 7, none⟩ = _ := HR4.out.blk.cell 7
      simp only [rcvCs, List.getElem?_toArray, List.getElem?_cons_succ, List.getElem?_cons_zero] at r7
      go_region
      go_wp2_with (fail)
      go_ret2
      rw [hR]
      obtain ⟨hR3, hc3, hat3, hk3⟩ := HR3.out
      have hz3 : w.heap.size ≤ w2.heap.size := hkw.size
      exact ⟨by simp, (Keeps.setCell (p := ⟨b, 5, none⟩) (hkw.trans hk3 (fun i hi hs => hs.elim .inl (fun h => h.elim (fun h => .inr (.inl h)) (fun h => by cases h)))) (fun _ => .inl rfl) _).drew, mem2, some c1, .slice A3 k c3, by have hq := HR4.out.drew; simp only [Nat.zero_add, List.nil_append] at hq; exact hq, fun k e => (by cases e; exact hc3.imp id (fun h => Nat.le_trans hz3 h)), fun k e => (hat3 k (by rw [Nat.zero_add]; exact e)).elim (fun h => by cases h) (fun h => .inr (Nat.le_trans hz3 h))⟩
    | false =>
      have HT := Lib.hid (HTN.out h0)
      clear HTF HTN
      cases hf : s.fits m with
      | false =>
        have hR : s.take m k qs = s := by simp [RcM.take, hk5, h0, hf]
        unfold RcM.fits at hf
        simp only [hf] at HT
        go_enter Tryz.func8, Tryz.ntmps8
        go_wp2_with (fail)
        go_must (refine HT.out.mono ?_)
        rintro e w2 ⟨rfl, hb2⟩
        have hR2 := H1.out.below (hb2)
        have r5 : w2.cell? ⟨b, 5, none⟩ = some (.bool s.done) := hR2.blk.cell 5
        have r7 : w2.cell? ⟨b, 7, none⟩ = _ := hR2.blk.cell 7
        simp only [rcvCs, List.getElem?_toArray, List.getElem?_cons_succ, List.getElem?_cons_zero] at r7
        have hlt2 := hR2.blk.lt
        have HR2 := Lib.hid hR2
        clear hR2
        go_wp2_with (fail)
        go_region
        go_wp2_with (fail)
        go_ret2
        rw [hR]
        exact ⟨rfl, (hK1.trans (Keeps.of_below hb2) (fun _ _ h => h)).drew, _, _, _, HR2.out.drew, fun k e => .inl e, fun k e => .inl e⟩
      | true =>
        have hR : s.take m k qs = { s with n := s.n + k, xs := s.xs ++ qs, done := m.done } := by simp [RcM.take, hk5, h0, hf]
        unfold RcM.fits at hf
        simp only [hf] at HT
        go_enter Tryz.func8, Tryz.ntmps8
        go_wp2_with (fail)
        go_must (refine HT.out.mono ?_)
        rintro e w2 ⟨rfl, hb2⟩
        have hR2 := H1.out.below (hb2)
        have hk20 : Keeps (RcvS b ch (.slice A0 s.n c0')) (w.alloc (.cells #[.int .i64 m.kind, .int .i64 m.fr, m.dst, m.term, .int .i64 m.ix, .int .i64 m.tm, m.commit, m.round, m.ok, .bool m.done, m.ents, m.mems, .int .i64 m.off, .slice A k c] 51)) w2 := Keeps.of_below hb2
        have hkw : Keeps (RcvS b ch (.slice A0 s.n c0')) w w2 := hK1.trans hk20 (fun i hi hs => hs)
        have hz2 := hk20.size
        have hm2 := hm.keeps hk20 hbox
        have e9 : w2.cell? ⟨w.heap.size, 9, none⟩ = some (.bool m.done) := hm2.cell 9
        have e13 : w2.cell? ⟨w.heap.size, 13, none⟩ = some (.slice A k c) := hm2.cell 13
        have HP := Lib.hid (put_ok B b s.bg s.fr s.ix s.tm mem s.done ch (.slice A0 s.n c0') s.n k c s.xs qs A w2 hR2 (Nat.le_trans HB.out.1 (Nat.le_trans hK1.size hz2)) (by have := HB.out.2.1; omega) HB.out.2.2.1 HB.out.2.2.2 (fun W hW => HCP.out W (hkw.trans hW (fun i hi hs => hs))))
        go_wp2_with (fail)
        go_must (refine HP.out.mono ?_)
        rintro e w3 ⟨c1, pv3, rfl, hR3, hc3, hat3, hk3⟩
        obtain ⟨A3, c3, rfl, -⟩ := Sl.of_own hR3.row
        have hm3 := hm2.keeps hk3 (fun hs => hbox (hs))
        have e9 : w3.cell? ⟨w.heap.size, 9, none⟩ = some (.bool m.done) := hm3.cell 9
        have r5 : w3.cell? ⟨b, 5, none⟩ = some (.bool s.done) := hR3.blk.cell 5
        have f5 : w3.frozen? ⟨b, 5, none⟩ = false := hR3.blk.frozen 5
        have hlt3 := hR3.blk.lt
        have HR4 := Lib.hid (hR3.done' m.done)
        have HR3 := Lib.hid (And.intro hR3 (And.intro hc3 (And.intro hat3 hk3)))
        clear hR3 hc3 hat3 hk3
        go_wp2_with (fail)
        have r5 : (w3.setCell ⟨b, 5, none⟩ (.bool m.done)).cell? ⟨b, 5, none⟩ = some (.bool m.done) := HR4.out.blk.cell 5
        have r7 : (w3.setCell ⟨b, 5, none⟩ (.bool m.done)).cell? ⟨b, 7, none⟩ = _ := HR4.out.blk.cell 7
        simp only [rcvCs, List.getElem?_toArray, List.getElem?_cons_succ, List.getElem?_cons_zero] at r7
        go_region
        go_wp2_with (fail)
        go_ret2
        rw [hR]
        obtain ⟨hR3, hc3, hat3, hk3⟩ := HR3.out
        have hz3 : w.heap.size ≤ w2.heap.size := hkw.size
        exact ⟨by simp, (Keeps.setCell (p := ⟨b, 5, none⟩) (hkw.trans hk3 (fun i hi hs => hs)) (fun _ => .inl rfl) _).drew, _, _, _, HR4.out.drew, fun k e => (by cases e; exact hc3.imp id (fun h => Nat.le_trans hz3 h)), fun k e => (hat3 k e).imp id (fun h => Nat.le_trans hz3 h)⟩
end Go.Ev

set_option linter.unusedVariables false
set_option linter.unusedSimpArgs false
namespace Go.Ev
open Go.Proofs Go.RowKit
def markP (i f n : Nat) : List Pair := (List.range n).map fun j => (nameB i (f + j), [])
theorem markP_len (i f n : Nat) : (markP i f n).length = n := by simp [markP]
theorem markP_succ (i f n : Nat) : markP i f (n + 1) = markP i f n ++ [(nameB i (f + n), [])] := by simp [markP, List.range_succ]
theorem markP_zero (i f : Nat) : markP i f 0 = [] := rfl
theorem markP_app (i f : Nat) (n m : Nat) : markP i f n ++ markP i (f + n) m = markP i f (n + m) := by
  induction m with
  | zero => simp [markP_zero]
  | succ m ih => rw [markP_succ, ← List.append_assoc, ih, ← Nat.add_assoc n m 1, markP_succ, Nat.add_assoc]
set_option maxHeartbeats 2000000 in
set_option maxRecDepth 100000 in
theorem markPairs_any (i f n : Nat) (w : World) (hi : i ≤ 1000) (hf : f + n ≤ 50000) :
    Calls Tryz.prog 94 #[.int .i64 (i : Int), .int .i64 (f : Int), .int .i64 (n : Int)] w fun e w' => ∃ v, e = .returned v ∧ w'.ownsRow w.heap.size 59 2 v n (pairsCs (markP i f n)) ∧ Below w.heap.size w w' := by
  obtain ⟨i0, hinf, q0, q1, q2⟩ := info_parts infoPair
  obtain ⟨m, hm⟩ : ∃ m, f + n = m := ⟨_, rfl⟩
  have hwm : IntKind.i64.wrap ((f : Int) + (n : Int)) = (m : Int) := by rw [IntWalk.i64_in _ (by omega)]; omega
  go_enter Tryz.func94, Tryz.ntmps94
  go_wp2_with (fail)
  go_loopg [7, 8] n (fun gk s7 s8 wr => ∃ (j k : Nat), s8 = .int .i64 (k : Int) ∧ k = f + j ∧ j + gk = n ∧ Hid (wr.ownsRow w.heap.size 59 2 s7 j (pairsCs (markP i f j))) ∧ Hid (Below w.heap.size w wr))
  case atStart => exact ⟨0, f, rfl, by omega, by omega, World.ownsRow_nil _ _ _ _, Below.refl _ _⟩
  case round =>
    obtain ⟨j, k, rfl, hk, hj, hown, hb⟩ := hrel
    obtain ⟨A, cc, rfl, -⟩ := Sl.of_own hown.out
    by_cases hlt : k < m
    · have hlt' : (k : Int) < (m : Int) := by omega
      have hw1 : IntKind.i64.wrap ((k : Int) + 1) = (k : Int) + 1 := IntWalk.i64_in _ (by omega)
      have HN := Lib.hid (name_any i k wr (by omega) (by omega))
      have HK := Lib.hid hk
      clear hk
      go_wp2_with (fail)
      go_must (refine HN.out.mono ?_)
      rintro e w1 ⟨rfl, hb1⟩
      have HB1 := Lib.hid hb1
      clear hb1
      go_wp2_with (at_builtin; go_must (refine wpList_append_at rfl _ _ 28 rfl w.heap.size 59 i0 _ 2 32 Tryz.underlying28 hinf q0 q1 q2 rfl (by decide) _ j (pairsCs (markP i f j)) rfl ((own_below hown.out HB1.out).alloc _) ⟨w1.heap.size, 0, none⟩ 1 1 (pairsCs [(nameB i k, [])]) rfl rfl (row_pair _ (nameB i k, []) _ _ rfl) (pairsCs_one _) (by unfold maxLen; omega) (by omega) (by have := HB1.out.size; have := hb.out.size; simp; omega) ?_))
      intro v5 w5 own5 hg5 _
      have hb5 : Below w.heap.size w w5 := ((hb.out.trans (HB1.out.mono hb.out.size)).alloc (by have := HB1.out.size; have := hb.out.size; omega) _).grown hg5 (by have := HB1.out.size; have := hb.out.size; simp; omega) (fun k hk => (hown.out.lt k hk).1)
      have hN : w5.ownsRow w.heap.size 59 2 v5 (j + 1) (pairsCs (markP i f (j + 1))) := by
        rw [markP_succ, pairsCs_app, ← HK.out]
        exact own5
      have HN5 := Lib.hid (And.intro hN hb5)
      obtain ⟨A5, c5, rfl, -⟩ := Sl.of_own own5
      clear own5 hg5 hb5 hN
      go_wp2_with (fail)
      go_roundg (gk - 1)
      case measure => have := HK.out; omega
      case rel => exact ⟨j + 1, k + 1, by simp, by have := HK.out; omega, by have := HK.out; omega, HN5.out.1, HN5.out.2⟩
    · have hlt' : ¬ (k : Int) < (m : Int) := by omega
      have hjn : j = n := by omega
      subst hjn
      go_wp2_with (fail)
      go_ret
      exact ⟨_, rfl, hown.out, hb.out⟩
theorem copyPairs_any (A : Option Addr) (n c : Nat) (l : List Pair) (w : World) (h : Sl w 2 (.slice A n c) n (pairsCs l)) (hA : A = none → c = 0) (hn : n ≤ 100000) :
    Calls Tryz.prog 24 #[.slice A n c] w fun e w' => ∃ v, e = .returned v ∧ w'.ownsRow w.heap.size 59 2 v n (pairsCs l) ∧ Below w.heap.size w w' := by
  obtain ⟨i0, hinf, q0, q1, q2⟩ := info_parts infoPair
  go_enter Tryz.func24, Tryz.ntmps24
  go_wp2_with (at_builtin; go_must (refine wpList_append_sl rfl _ _ 28 rfl w.heap.size 59 i0 _ 2 32 Tryz.underlying28 hinf q0 q1 q2 rfl (by decide) (.slice none 0 0) 0 [] rfl (World.ownsRow_nil _ _ _ _) A n c (pairsCs l) rfl h hA (pairsCs_one _) (by unfold maxLen; omega) (by omega) (Nat.le_refl _) ?_))
  intro v8 w8 own8 hg8
  have hb8 : Below w.heap.size w w8 := (Below.refl _ w).grown hg8 (Nat.le_refl _) (fun k hk => by cases hk)
  have H8 := Lib.hid (And.intro own8 hb8)
  obtain ⟨A8, c8, rfl, -⟩ := Sl.of_own own8
  clear own8 hg8 hb8
  go_wp2_with (fail)
  go_ret
  exact ⟨_, rfl, H8.out.1, H8.out.2⟩
theorem infoPairs : (Tryz.prog.info? 28).map (fun i => (i.zero, i.size, i.bytes)) = some (some (.slice none 0 0), 1, 24) := by kernel_rfl
def bookCs (pv wv : Value) : Array Value := #[.slice none 0 0, .slice none 0 0, .slice none 0 0, .slice none 0 0, .slice none 0 0, .slice none 0 0, .slice none 0 0, .slice none 0 0, pv, wv, .slice none 0 0, .slice none 0 0, .slice none 0 0, .slice none 0 0, .slice none 0 0, .slice none 0 0, .slice none 0 0, .slice none 0 0, .slice none 0 0, .slice none 0 0, .slice none 0 0, .slice none 0 0]
structure BookAt (W : World) (B g : Nat) (pv wv : Value) (ms ws : List Value) : Prop where
  blk : Blk W g 47 (bookCs pv wv)
  pr : W.ownsRow B 28 1 pv ms.length ms
  wr : W.ownsRow B 28 1 wv ws.length ws
  pw : ∀ k, pv.ownBlock = some k → wv.ownBlock ≠ some k
  low : B ≤ g
def BookS (g : Nat) (pv wv : Value) (k : Nat) : Prop := k = g ∨ pv.ownBlock = some k ∨ wv.ownBlock = some k
section
variable {W W' : World} {B g : Nat} {pv wv : Value} {ms ws : List Value}
theorem BookAt.keeps {S : Nat → Prop} (h : BookAt W B g pv wv ms ws) (hk : Keeps S W W') (hS : ∀ k, BookS g pv wv k → ¬ S k) : BookAt W' B g pv wv ms ws :=
  ⟨h.blk.keeps hk (hS _ (.inl rfl)), own_keeps h.pr hk fun k e => hS _ (.inr (.inl e)), own_keeps h.wr hk fun k e => hS _ (.inr (.inr e)), h.pw, h.low⟩
theorem BookAt.below (h : BookAt W B g pv wv ms ws) (hb : Below W.heap.size W W') : BookAt W' B g pv wv ms ws := h.keeps (S := fun _ => False) (Keeps.of_below hb) fun _ _ h => h
theorem BookAt.lt (h : BookAt W B g pv wv ms ws) : ∀ k, BookS g pv wv k → B ≤ k ∧ k < W.heap.size := by
  rintro k (rfl | hk | hk)
  · exact ⟨h.low, h.blk.lt⟩
  · exact h.pr.lt k hk
  · exact h.wr.lt k hk
theorem row_val (w : World) (v : Value) (T : TypeId) (b : Nat) (hb : b = w.heap.size) : ∀ j u, [v][j]? = some u → (w.alloc (.cells #[v] T)).cell? ((⟨b, 0, none⟩ : Addr).add j) = some u := by
  intro j u h
  subst hb
  rw [addr_add, Nat.zero_add, (Blk.new w T #[v]).cell j]
  match j with
  | 0 => exact h
  | j + 1 => simp at h
theorem book_grow1 {v pv' : Value} {w1 w2 : World} (h : BookAt W B g pv wv ms ws) (hBW : B ≤ W.heap.size) (hb : Below W.heap.size W w1) (ho : w2.ownsRow B 28 1 pv' (ms.length + 1) (ms ++ [v])) (hg : w1.grownBy w2 pv.ownBlock) (hat : ∀ k, pv'.ownBlock = some k → pv.ownBlock = some k ∨ W.heap.size ≤ k) :
    w2.cell? ⟨g, 8, none⟩ = some pv ∧ w2.frozen? ⟨g, 8, none⟩ = false ∧ BookAt (w2.setCell ⟨g, 8, none⟩ pv') B g pv' wv (ms ++ [v]) ws ∧ Keeps (BookS g pv wv) W (w2.setCell ⟨g, 8, none⟩ pv') := by
  have hz := hb.size
  have hpg : ∀ k, pv.ownBlock = some k → k ≠ g := own_ne h.pr h.blk (by decide)
  have hwg : ∀ k, wv.ownBlock = some k → k ≠ g := own_ne h.wr h.blk (by decide)
  have K1 : Keeps (fun k => pv.ownBlock = some k) W w2 := (Keeps.of_below hb).grown hg fun k hk _ => hk
  have b2 := h.blk.keeps K1 (fun e => hpg _ e rfl)
  have hp2 : ∀ k, pv'.ownBlock = some k → k ≠ g := own_ne ho b2 (by decide)
  have K2 : Keeps (fun k => k = g) w2 (w2.setCell ⟨g, 8, none⟩ pv') := (Keeps.refl (fun k => k = g) w2).setCell (p := ⟨g, 8, none⟩) (fun _ => rfl) _
  refine ⟨b2.cell 8, b2.frozen 8, ⟨b2.set 8 pv', ?_, own_keeps (own_keeps h.wr K1 fun k hk e => h.pw k e hk) K2 hwg, fun k hk e => ?_, h.low⟩, (K1.mono fun i _ e => .inr (.inl e)).trans K2 fun i _ e => .inl e⟩
  · rw [List.length_append]
    exact own_keeps ho K2 hp2
  · rcases hat k hk with e2 | e2
    · exact h.pw k e2 e
    · have := (h.wr.lt k e).2; omega
theorem book_grow2 {v wv' : Value} {w1 w2 : World} (h : BookAt W B g pv wv ms ws) (hBW : B ≤ W.heap.size) (hb : Below W.heap.size W w1) (ho : w2.ownsRow B 28 1 wv' (ws.length + 1) (ws ++ [v])) (hg : w1.grownBy w2 wv.ownBlock) (hat : ∀ k, wv'.ownBlock = some k → wv.ownBlock = some k ∨ W.heap.size ≤ k) :
    w2.cell? ⟨g, 9, none⟩ = some wv ∧ w2.frozen? ⟨g, 9, none⟩ = false ∧ BookAt (w2.setCell ⟨g, 9, none⟩ wv') B g pv wv' ms (ws ++ [v]) ∧ Keeps (BookS g pv wv) W (w2.setCell ⟨g, 9, none⟩ wv') := by
  have hz := hb.size
  have hpg : ∀ k, pv.ownBlock = some k → k ≠ g := own_ne h.pr h.blk (by decide)
  have hwg : ∀ k, wv.ownBlock = some k → k ≠ g := own_ne h.wr h.blk (by decide)
  have K1 : Keeps (fun k => wv.ownBlock = some k) W w2 := (Keeps.of_below hb).grown hg fun k hk _ => hk
  have b2 := h.blk.keeps K1 (fun e => hwg _ e rfl)
  have hp2 : ∀ k, wv'.ownBlock = some k → k ≠ g := own_ne ho b2 (by decide)
  have K2 : Keeps (fun k => k = g) w2 (w2.setCell ⟨g, 9, none⟩ wv') := (Keeps.refl (fun k => k = g) w2).setCell (p := ⟨g, 9, none⟩) (fun _ => rfl) _
  refine ⟨b2.cell 9, b2.frozen 9, ⟨b2.set 9 wv', own_keeps (own_keeps h.pr K1 fun k hk e => h.pw k hk e) K2 hpg, ?_, fun k hk e => ?_, h.low⟩, (K1.mono fun i _ e => .inr (.inr e)).trans K2 fun i _ e => .inl e⟩
  · rw [List.length_append]
    exact own_keeps ho K2 hp2
  · rcases hat k e with e2 | e2
    · exact h.pw k hk e2
    · have := (h.pr.lt k hk).2; omega
def BookPairsP (B g : Nat) (pv wv : Value) (ms ws : List Value) (v : Value) (n : Nat) (l : List Pair) (w : World) (e : Ending) (w' : World) : Prop :=
  e = .returned (.tuple #[]) ∧ ∃ pv' wv' x, BookAt w' B g pv' wv' (ms ++ [v]) (ws ++ [x]) ∧ w'.ownsRow w.heap.size 59 2 x n (pairsCs l) ∧ Keeps (BookS g pv wv) w w'
set_option maxHeartbeats 4000000 in
set_option maxRecDepth 100000 in
theorem bookPairs_any (A : Option Addr) (n c : Nat) (l : List Pair) (h : BookAt W B g pv wv ms ws) (hBW : B ≤ W.heap.size) (hms : ms.length ≤ 200) (hws : ws.length ≤ 200) (hv : Sl W 2 (.slice A n c) n (pairsCs l)) (hA : A = none → c = 0) (hn : n ≤ 100000) (hAg : ∀ b o, A = some ⟨b, o, none⟩ → ¬ BookS g pv wv b) :
    Calls Tryz.prog 11 #[ptrV g, .slice A n c] W (BookPairsP B g pv wv ms ws (.slice A n c) n l W) := by
  obtain ⟨i0, hinf, q0, q1, q2⟩ := info_parts infoPairs
  obtain ⟨Ap, cp, rfl, -⟩ := Sl.of_own h.pr
  obtain ⟨Aw, cw, rfl, -⟩ := Sl.of_own h.wr
  have c8 : W.cell? ⟨g, 8, none⟩ = some (.slice Ap ms.length cp) := h.blk.cell 8
  have hml : (ms.length : Int) < 250 := by omega
  have hb1 : Below W.heap.size W (W.alloc (.cells #[.slice A n c] 28)) := (Below.refl _ W).alloc (Nat.le_refl _) _
  have HG1 := Lib.hid (fun v w2 pv' r1 r2 r3 => book_grow1 (v := v) (w2 := w2) (pv' := pv') h hBW hb1 r1 r2 r3)
  have HH := Lib.hid (And.intro h hv)
  have HNil := Lib.hid (And.intro hA hAg)
  clear hA hAg
  have HO1 := Lib.hid (own_below h.pr hb1)
  clear hb1
  go_enter Tryz.func11, Tryz.ntmps11
  clear h hv
  have c8a : (W.alloc (.cells #[.slice A n c] 28)).cell? ⟨g, 8, none⟩ = some (.slice Ap ms.length cp) := (HH.out.1.blk.alloc _).cell 8
  go_wp2_with (at_builtin; go_must (refine wpList_append_at rfl _ _ 39 rfl B 28 i0 _ 1 24 Tryz.underlying39 hinf q0 q1 q2 rfl (by decide) _ ms.length ms rfl HO1.out ⟨W.heap.size, 0, none⟩ 1 1 [.slice A n c] rfl rfl (row_val _ _ _ _ rfl) (by simp [Value.oneCell']) (by unfold maxLen; omega) (by omega) (by simp; omega) ?_))
  intro v2 w2 own2 hg2 hat2
  obtain ⟨z1, z2, hB2, hK2⟩ := HG1.out _ w2 v2 own2 hg2 (fun k e => (hat2 k e).elim .inl fun h => .inr (by omega))
  have hz2 := hK2.size
  have hv2 : Sl (w2.setCell ⟨g, 8, none⟩ v2) 2 (.slice A n c) n (pairsCs l) := HH.out.2.keeps hK2 fun A' m' c' b o e1 e2 => by
    cases e1
    exact HNil.out.2 b o e2
  have HAt : Hid (∀ i, v2.ownBlock = some i → i < W.heap.size → (Value.slice Ap ms.length cp).ownBlock = some i) := fun i e hi => by
    rcases hat2 i e with e2 | e2
    · exact e2
    · omega
  have HB2 := Lib.hid (And.intro hB2 hK2)
  have HV2 := Lib.hid hv2
  obtain ⟨W2, hW2⟩ : ∃ W2, w2.setCell ⟨g, 8, none⟩ v2 = W2 := ⟨_, rfl⟩
  rw [hW2] at HB2 HV2 hz2
  have c9 : W2.cell? ⟨g, 9, none⟩ = some (.slice Aw ws.length cw) := HB2.out.1.blk.cell 9
  have HCp := Lib.hid (fun V (hb : Below W2.heap.size W2 V) => copyPairs_any A n c l V (HV2.out.below hb) HNil.out.1 hn)
  obtain ⟨A2, c2, rfl, -⟩ := Sl.of_own own2
  clear own2 hg2 hat2 hB2 hK2 hv2
  go_wp2_with (fail)
  clear z1 z2 hW2
  refine wp_region_any (by kernel_rfl) ?_
  change wpAny _ _ _ _ _ _ _ (World.drew _)
  try simp only [Act.put, lT, l0, lS]
  refine tk 0 (v := ?_) rfl (by kernel_rfl) (fun _ _ _ h => h) (by rfl) ?hy ?_
  case hy => intro w; go_simp; try with_reducible rfl
  try simp only [Act.put, lT, l0, lS]
  refine tk 1 (v := ?_) rfl (by kernel_rfl) (fun _ _ _ h => h) (by rfl) ?hy ?_
  case hy => intro w; go_simp; try with_reducible rfl
  try simp only [Act.put, lT, l0, lS]
  refine tk 2 (v := ?_) rfl (by kernel_rfl) (fun _ _ _ h => h) (by rfl) ?hy ?_
  case hy => intro w; go_simp; try with_reducible rfl
  try simp only [Act.put, lT, l0, lS]
  refine tk 3 (v := ?_) rfl (by kernel_rfl) (fun _ _ _ h => h) (by rfl) ?hy ?_
  case hy => intro w; go_simp; try with_reducible rfl
  try simp only [Act.put, lT, l0, lS]
  refine tk 5 (v := ?_) rfl (by kernel_rfl) (fun _ _ _ h => h) (by rfl) ?hy ?_
  case hy => intro w; go_simp; try with_reducible rfl
  try simp only [Act.put, lT, l0, lS]
  refine wpAny_ready (rs := [4, 6]) (by kernel_rfl) (by simp) (AllReady.cons (o := { dst := _, op := _, type := _, pos := _, after := _, guard := _ }) rfl (fun K hK => ?_) (AllReady.cons (o := { dst := _, op := _, type := _, pos := _, after := _, guard := _ }) rfl (fun K hK => ?_) AllReady.nil))
  · go_simp
    refine hK _ _ ?_
    clear hK K
    refine rd 6 (by kernel_rfl) rfl (fun K hK => ?_)
    go_simp
    (go_must (refine (HCp.out _ (Below.refl _ W2).drew).mono ?_); rintro e w3 ⟨x, rfl, hx, hb3⟩)
    have hb3' : Below W2.heap.size W2 w3 := (Below.refl _ W2).drew.trans hb3
    have hb4 : Below W2.heap.size W2 (w3.alloc (.cells #[x] 28)) := hb3'.alloc hb3'.size _
    have HG2 := Lib.hid (fun w5 wv' r1 r2 r3 => book_grow2 (v := x) (w2 := w5) (wv' := wv') HB2.out.1 (by omega) hb4 r1 r2 r3)
    have HO2 := Lib.hid (own_below HB2.out.1.wr hb4)
    have HX := Lib.hid (And.intro hx hb3')
    have hx1 : Value.oneCell' x = true := by
      obtain ⟨Ax, cx, rfl, -⟩ := Sl.of_own hx
      rfl
    obtain ⟨Ax, cx, rfl, -⟩ := Sl.of_own hx
    clear hx hb3 hb3' hb4
    go_simp
    refine hK _ _ ?_
    clear hK K
    refine rd 7 (by kernel_rfl) rfl (fun K hK => ?_)
    go_simp
    refine hK _ _ ?_
    clear hK K
    refine rd 8 (by kernel_rfl) rfl (fun K hK => ?_)
    refine if_on rfl ?_
    go_must (refine wp_append_at _ _ 39 rfl B 28 i0 _ 1 24 Tryz.underlying39 hinf q0 q1 q2 rfl (by decide) _ ws.length ws rfl HO2.out ⟨w3.heap.size, 0, none⟩ 1 1 [.slice Ax n cx] rfl rfl (row_val _ _ _ _ rfl) (by simp [Value.oneCell']) (by unfold maxLen; omega) (by omega) (by have := HX.out.2.size; simp; omega) ?_)
    intro v5 w5 own5 hg5 hat5
    obtain ⟨z1, z2, hB5, hK5⟩ := HG2.out w5 v5 own5 hg5 (fun k e => (hat5 k e).elim .inl fun h => .inr (Nat.le_trans HX.out.2.size (Nat.le_of_succ_le (by simpa using h))))
    have HE : Hid (BookPairsP B g (.slice Ap ms.length cp) (.slice Aw ws.length cw) ms ws (.slice A n c) n l W (.returned (.tuple #[])) (w5.setCell ⟨g, 9, none⟩ v5)) := by
      refine ⟨rfl, _, _, _, hB5, ?_, HB2.out.2.trans hK5 fun i hi e => ?_⟩
      · have h1 := own_base HX.out.1 (show W.heap.size ≤ W2.drew.heap.size by exact hz2)
        have hk : Keeps (fun k => k = g ∨ (Value.slice Aw ws.length cw).ownBlock = some k) w3 (w5.setCell ⟨g, 9, none⟩ v5) :=
          ((((Keeps.refl (fun k => k = g ∨ (Value.slice Aw ws.length cw).ownBlock = some k) w3).alloc _).grown hg5 fun k e _ => .inr e)).setCell (p := ⟨g, 9, none⟩) (fun _ => .inl rfl) _
        refine own_keeps h1 hk fun k e hs => ?_
        have h2 := (HX.out.1.lt k e).1
        have h3 : W2.heap.size ≤ k := h2
        rcases hs with hs | hs
        · have := HB2.out.1.blk.lt; omega
        · have := (HB2.out.1.wr.lt k hs).2; omega
      · rcases e with e | e | e
        · exact .inl e
        · exact .inr (.inl (HAt.out i e hi))
        · exact .inr (.inr e)
    obtain ⟨A5, c5, rfl, -⟩ := Sl.of_own own5
    clear own5 hg5 hat5 hB5 hK5
    go_simp
    refine hK _ _ ?_
    clear hK K
    try simp only [Act.put, lT, l0, lS]
    refine tk 9 (v := ?_) rfl (by kernel_rfl) (fun _ _ _ h => h) (by rfl) ?hy ?_
    case hy => intro w; go_simp; try with_reducible rfl
    try simp only [Act.put, lT, l0, lS]
    refine tk 10 (v := ?_) rfl (by kernel_rfl) (fun _ _ _ h => h) (by rfl) ?hy ?_
    case hy => intro w; go_simp; try with_reducible rfl
    try simp only [Act.put, lT, l0, lS]
    refine rd 11 (by kernel_rfl) rfl (fun K hK => ?_)
    go_simp
    refine hK _ _ ?_
    clear hK K
    refine wpAny_done (by kernel_rfl) ?_ _
    go_wp2_with (fail)
    go_end0
    exact HE.out
  · go_simp
    (go_must (refine (HCp.out _ (Below.refl _ W2).drew).mono ?_); rintro e w3 ⟨x, rfl, hx, hb3⟩)
    have hb3' : Below W2.heap.size W2 w3 := (Below.refl _ W2).drew.trans hb3
    have hb4 : Below W2.heap.size W2 (w3.alloc (.cells #[x] 28)) := hb3'.alloc hb3'.size _
    have HG2 := Lib.hid (fun w5 wv' r1 r2 r3 => book_grow2 (v := x) (w2 := w5) (wv' := wv') HB2.out.1 (by omega) hb4 r1 r2 r3)
    have HO2 := Lib.hid (own_below HB2.out.1.wr hb4)
    have HX := Lib.hid (And.intro hx hb3')
    have hx1 : Value.oneCell' x = true := by
      obtain ⟨Ax, cx, rfl, -⟩ := Sl.of_own hx
      rfl
    obtain ⟨Ax, cx, rfl, -⟩ := Sl.of_own hx
    clear hx hb3 hb3' hb4
    have c9w : w3.cell? ⟨g, 9, none⟩ = some (.slice Aw ws.length cw) := (HB2.out.1.blk.below' HX.out.2).cell 9
    have c9x : (w3.alloc (.cells #[.slice Ax n cx] 28)).cell? ⟨g, 9, none⟩ = some (.slice Aw ws.length cw) := ((HB2.out.1.blk.below' HX.out.2).alloc _).cell 9
    go_simp
    refine hK _ _ ?_
    clear hK K
    refine wpAny_ready (rs := [4, 7]) (by kernel_rfl) (by simp) (AllReady.cons (o := { dst := _, op := _, type := _, pos := _, after := _, guard := _ }) rfl (fun K hK => ?_) (AllReady.cons (o := { dst := _, op := _, type := _, pos := _, after := _, guard := _ }) rfl (fun K hK => ?_) AllReady.nil))
    · go_simp
      refine hK _ _ ?_
      clear hK K
      refine rd 7 (by kernel_rfl) rfl (fun K hK => ?_)
      go_simp
      refine hK _ _ ?_
      clear hK K
      refine rd 8 (by kernel_rfl) rfl (fun K hK => ?_)
      refine if_on rfl ?_
      go_must (refine wp_append_at _ _ 39 rfl B 28 i0 _ 1 24 Tryz.underlying39 hinf q0 q1 q2 rfl (by decide) _ ws.length ws rfl HO2.out ⟨w3.heap.size, 0, none⟩ 1 1 [.slice Ax n cx] rfl rfl (row_val _ _ _ _ rfl) (by simp [Value.oneCell']) (by unfold maxLen; omega) (by omega) (by have := HX.out.2.size; simp; omega) ?_)
      intro v5 w5 own5 hg5 hat5
      obtain ⟨z1, z2, hB5, hK5⟩ := HG2.out w5 v5 own5 hg5 (fun k e => (hat5 k e).elim .inl fun h => .inr (Nat.le_trans HX.out.2.size (Nat.le_of_succ_le (by simpa using h))))
      have HE : Hid (BookPairsP B g (.slice Ap ms.length cp) (.slice Aw ws.length cw) ms ws (.slice A n c) n l W (.returned (.tuple #[])) (w5.setCell ⟨g, 9, none⟩ v5)) := by
        refine ⟨rfl, _, _, _, hB5, ?_, HB2.out.2.trans hK5 fun i hi e => ?_⟩
        · have h1 := own_base HX.out.1 (show W.heap.size ≤ W2.drew.heap.size by exact hz2)
          have hk : Keeps (fun k => k = g ∨ (Value.slice Aw ws.length cw).ownBlock = some k) w3 (w5.setCell ⟨g, 9, none⟩ v5) :=
            ((((Keeps.refl (fun k => k = g ∨ (Value.slice Aw ws.length cw).ownBlock = some k) w3).alloc _).grown hg5 fun k e _ => .inr e)).setCell (p := ⟨g, 9, none⟩) (fun _ => .inl rfl) _
          refine own_keeps h1 hk fun k e hs => ?_
          have h2 := (HX.out.1.lt k e).1
          have h3 : W2.heap.size ≤ k := h2
          rcases hs with hs | hs
          · have := HB2.out.1.blk.lt; omega
          · have := (HB2.out.1.wr.lt k hs).2; omega
        · rcases e with e | e | e
          · exact .inl e
          · exact .inr (.inl (HAt.out i e hi))
          · exact .inr (.inr e)
      obtain ⟨A5, c5, rfl, -⟩ := Sl.of_own own5
      clear own5 hg5 hat5 hB5 hK5
      go_simp
      refine hK _ _ ?_
      clear hK K
      try simp only [Act.put, lT, l0, lS]
      refine tk 9 (v := ?_) rfl (by kernel_rfl) (fun _ _ _ h => h) (by rfl) ?hy ?_
      case hy => intro w; go_simp; try with_reducible rfl
      try simp only [Act.put, lT, l0, lS]
      refine tk 10 (v := ?_) rfl (by kernel_rfl) (fun _ _ _ h => h) (by rfl) ?hy ?_
      case hy => intro w; go_simp; try with_reducible rfl
      try simp only [Act.put, lT, l0, lS]
      refine rd 11 (by kernel_rfl) rfl (fun K hK => ?_)
      go_simp
      refine hK _ _ ?_
      clear hK K
      refine wpAny_done (by kernel_rfl) ?_ _
      go_wp2_with (fail)
      go_end0
      exact HE.out
    · go_simp
      refine hK _ _ ?_
      clear hK K
      refine rd 4 (by kernel_rfl) rfl (fun K hK => ?_)
      go_simp
      refine hK _ _ ?_
      clear hK K
      refine rd 8 (by kernel_rfl) rfl (fun K hK => ?_)
      refine if_on rfl ?_
      go_must (refine wp_append_at _ _ 39 rfl B 28 i0 _ 1 24 Tryz.underlying39 hinf q0 q1 q2 rfl (by decide) _ ws.length ws rfl HO2.out ⟨w3.heap.size, 0, none⟩ 1 1 [.slice Ax n cx] rfl rfl (row_val _ _ _ _ rfl) (by simp [Value.oneCell']) (by unfold maxLen; omega) (by omega) (by have := HX.out.2.size; simp; omega) ?_)
      intro v5 w5 own5 hg5 hat5
      obtain ⟨z1, z2, hB5, hK5⟩ := HG2.out w5 v5 own5 hg5 (fun k e => (hat5 k e).elim .inl fun h => .inr (Nat.le_trans HX.out.2.size (Nat.le_of_succ_le (by simpa using h))))
      have HE : Hid (BookPairsP B g (.slice Ap ms.length cp) (.slice Aw ws.length cw) ms ws (.slice A n c) n l W (.returned (.tuple #[])) (w5.setCell ⟨g, 9, none⟩ v5)) := by
        refine ⟨rfl, _, _, _, hB5, ?_, HB2.out.2.trans hK5 fun i hi e => ?_⟩
        · have h1 := own_base HX.out.1 (show W.heap.size ≤ W2.drew.heap.size by exact hz2)
          have hk : Keeps (fun k => k = g ∨ (Value.slice Aw ws.length cw).ownBlock = some k) w3 (w5.setCell ⟨g, 9, none⟩ v5) :=
            ((((Keeps.refl (fun k => k = g ∨ (Value.slice Aw ws.length cw).ownBlock = some k) w3).alloc _).grown hg5 fun k e _ => .inr e)).setCell (p := ⟨g, 9, none⟩) (fun _ => .inl rfl) _
          refine own_keeps h1 hk fun k e hs => ?_
          have h2 := (HX.out.1.lt k e).1
          have h3 : W2.heap.size ≤ k := h2
          rcases hs with hs | hs
          · have := HB2.out.1.blk.lt; omega
          · have := (HB2.out.1.wr.lt k hs).2; omega
        · rcases e with e | e | e
          · exact .inl e
          · exact .inr (.inl (HAt.out i e hi))
          · exact .inr (.inr e)
      obtain ⟨A5, c5, rfl, -⟩ := Sl.of_own own5
      clear own5 hg5 hat5 hB5 hK5
      go_simp
      refine hK _ _ ?_
      clear hK K
      try simp only [Act.put, lT, l0, lS]
      refine tk 9 (v := ?_) rfl (by kernel_rfl) (fun _ _ _ h => h) (by rfl) ?hy ?_
      case hy => intro w; go_simp; try with_reducible rfl
      try simp only [Act.put, lT, l0, lS]
      refine tk 10 (v := ?_) rfl (by kernel_rfl) (fun _ _ _ h => h) (by rfl) ?hy ?_
      case hy => intro w; go_simp; try with_reducible rfl
      try simp only [Act.put, lT, l0, lS]
      refine rd 11 (by kernel_rfl) rfl (fun K hK => ?_)
      go_simp
      refine hK _ _ ?_
      clear hK K
      refine wpAny_done (by kernel_rfl) ?_ _
      go_wp2_with (fail)
      go_end0
      exact HE.out
end
end Go.Ev



































set_option linter.unusedVariables false
set_option linter.unusedSimpArgs false
namespace Go.Ev
open Go.Proofs Go.RowKit
def SlL (W : World) (ms : List Value) (ls : List (List Pair)) : Prop := ms.length = ls.length ∧ ∀ (i : Nat) (v : Value) (l : List Pair), ms[i]? = some v → ls[i]? = some l → Sl W 2 v l.length (pairsCs l)
theorem SlL.below {W W' : World} {ms : List Value} {ls : List (List Pair)} (h : SlL W ms ls) (hb : Below W.heap.size W W') : SlL W' ms ls := ⟨h.1, fun i v l h1 h2 => (h.2 i v l h1 h2).below hb⟩
theorem SlL.take {W : World} {ms : List Value} {ls : List (List Pair)} (h : SlL W ms ls) (i : Nat) (hi : i < ms.length) : ∃ A c l, ms[i]? = some (.slice A l.length c) ∧ ls[i]? = some l ∧ Sl W 2 (.slice A l.length c) l.length (pairsCs l) := by
  have h1 : ms[i]? = some ms[i] := List.getElem?_eq_getElem hi
  have hi2 : i < ls.length := by rw [← h.1]; exact hi
  have h2 : ls[i]? = some ls[i] := List.getElem?_eq_getElem hi2
  have h3 := h.2 i _ _ h1 h2
  obtain ⟨A, c, e, _⟩ := h3
  have h3 := h.2 i _ _ h1 h2
  rw [e] at h1 h3
  exact ⟨A, c, ls[i], h1, h2, h3⟩
set_option maxHeartbeats 2000000 in
set_option maxRecDepth 100000 in
theorem markedPairs_any (A : Option Addr) (n c : Nat) (ms : List Value) (ls : List (List Pair)) (W : World) (h : Sl W 1 (.slice A n c) n ms) (hl : SlL W ms ls) (hm : ∀ (i : Nat) (l : List Pair), ls[i]? = some l → l = markP i 0 l.length ∧ l.length ≤ 10000) (hn : n ≤ 1000) :
    Calls Tryz.prog 62 #[.slice A n c] W fun e w' => e = .returned (.bool true) ∧ Below W.heap.size W w' := by
  have hlen : ms.length = n := by obtain ⟨_, _, _, _, h1, _⟩ := h; omega
  have HA := Lib.hid (And.intro h hl)
  clear h hl
  go_enter Tryz.func62, Tryz.ntmps62
  go_wp2_with (fail)
  go_loopg [3] n (fun gk s3 wr => ∃ i : Nat, s3 = .int .i64 (i : Int) ∧ i + gk = n ∧ Hid (Below W.heap.size W wr))
  case atStart => exact ⟨0, rfl, by omega, Below.refl _ _⟩
  case round =>
    obtain ⟨i, rfl, hi, hbw⟩ := hrel
    by_cases h1 : i < n
    · have h1' : (i : Int) < (n : Int) := by omega
      have hi0 : (0 : Int) ≤ (i : Int) := by omega
      have hw1 : IntKind.i64.wrap ((i : Int) + 1) = (i : Int) + 1 := IntWalk.i64_in _ (by omega)
      obtain ⟨_, _, e0, _, _, hcl⟩ := HA.out.1.below hbw.out
      cases e0
      obtain ⟨ba, oa, rfl, hlt, hca⟩ := hcl (by omega)
      obtain ⟨A1, c1, l, hv, hll, hs1⟩ := (HA.out.2.below hbw.out).take i (by omega)
      have x1 : wr.cell? ⟨ba, oa + i, none⟩ = _ := hca _ _ hv
      obtain ⟨hml, hmb⟩ := hm i l hll
      have HM := Lib.hid (markPairs_any i 0 l.length wr.drew (by omega) (by omega))
      have HL := Lib.hid (And.intro hs1 hml)
      have HB := hbw
      have HSm := Lib.hid (fun (V : World) (B1 : Option Addr) (d : Nat) (hb : Below wr.heap.size wr V) (hy : Sl V 2 (.slice B1 l.length d) l.length (pairsCs (markP i 0 l.length))) => samePairs_any A1 B1 l.length l.length c1 d l (markP i 0 l.length) V (hs1.below hb) hy (by omega) (by omega))
      clear hv hll hs1 hml hca hcl
      go_wp2_with (fail)
      refine wp_region_any (by kernel_rfl) ?_
      change wpAny _ _ _ _ _ _ _ (World.drew _)
      try simp only [Act.put, lT, l0, lS]
      refine tk 0 (v := ?_) rfl (by kernel_rfl) (fun _ _ _ h => h) (by rfl) ?hy ?_
      case hy => intro w; go_simp; try with_reducible rfl
      try simp only [Act.put, lT, l0, lS]
      refine tk 1 (v := ?_) rfl (by kernel_rfl) (fun _ _ _ h => h) (by rfl) ?hy ?_
      case hy => intro w; go_simp; try with_reducible rfl
      try simp only [Act.put, lT, l0, lS]
      refine tk 2 (v := ?_) rfl (by kernel_rfl) (fun _ _ _ h => h) (by rfl) ?hy ?_
      case hy => intro w; go_simp; try with_reducible rfl
      try simp only [Act.put, lT, l0, lS]
      refine tk 4 (v := ?_) rfl (by kernel_rfl) (fun _ _ _ h => h) (by rfl) ?hy ?_
      case hy => intro w; go_simp; try with_reducible rfl
      try simp only [Act.put, lT, l0, lS]
      refine tk 5 (v := ?_) rfl (by kernel_rfl) (fun _ _ _ h => h) (by rfl) ?hy ?_
      case hy => intro w; go_simp; try with_reducible rfl
      try simp only [Act.put, lT, l0, lS]
      refine tk 6 (v := ?_) rfl (by kernel_rfl) (fun _ _ _ h => h) (by rfl) ?hy ?_
      case hy => intro w; go_simp; try with_reducible rfl
      try simp only [Act.put, lT, l0, lS]
      refine tk 7 (v := ?_) rfl (by kernel_rfl) (fun _ _ _ h => h) (by rfl) ?hy ?_
      case hy => intro w; go_simp; try with_reducible rfl
      try simp only [Act.put, lT, l0, lS]
      try simp only [Act.put, lT, l0, lS]
      refine tkR 8 (v := ?_) rfl (by kernel_rfl) (fun _ _ _ h => h) (by rfl) ?hy ?_
      case hy => intro w hE; have q0 := hE.cell x1; go_simp; try with_reducible rfl
      try simp only [Act.put, lT, l0, lS]
      try simp only [Act.put, lT, l0, lS]
      refine tk 9 (v := ?_) rfl (by kernel_rfl) (fun _ _ _ h => h) (by rfl) ?hy ?_
      case hy => intro w; go_simp; try with_reducible rfl
      try simp only [Act.put, lT, l0, lS]
      refine wpAny_ready (rs := [3, 10]) (by kernel_rfl) (by simp) (AllReady.cons (o := { dst := _, op := _, type := _, pos := _, after := _, guard := _ }) rfl (fun K hK => ?_) (AllReady.cons (o := { dst := _, op := _, type := _, pos := _, after := _, guard := _ }) rfl (fun K hK => ?_) AllReady.nil))
      · go_simp
        refine hK _ _ ?_
        clear hK K
        refine rd 10 (by kernel_rfl) rfl (fun K hK => ?_)
        go_simp
        (go_must (refine HM.out.mono ?_); rintro e w3 ⟨y, rfl, hy, hb3⟩)
        have hb3' : Below wr.heap.size wr w3 := (Below.refl _ wr).drew.trans hb3
        obtain ⟨B1, d1, rfl, -⟩ := Sl.of_own hy
        have HS2 := Lib.hid (HSm.out w3 B1 d1 hb3' (Sl.of_own hy))
        have HB3 := Lib.hid hb3'
        clear hy hb3 hb3'
        go_simp
        refine hK _ _ ?_
        clear hK K
        refine rd 11 (by kernel_rfl) rfl (fun K hK => ?_)
        go_simp
        (go_must (refine HS2.out.mono ?_); rintro e w4 ⟨rfl, hb4⟩)
        have hbb : decide (l = markP i 0 l.length) = true := decide_eq_true HL.out.2
        rw [hbb]
        have HB4 : Hid (Below W.heap.size W w4) := hbw.out.trans ((HB3.out.trans (hb4.mono HB3.out.size)).mono hbw.out.size)
        clear hb4 hbb
        go_simp
        refine hK _ _ ?_
        clear hK K
        refine rd 12 (by kernel_rfl) rfl (fun K hK => ?_)
        go_simp
        refine hK _ _ ?_
        clear hK K
        refine wpAny_done (by kernel_rfl) ?_ _
        go_wp2_with (fail)
        go_roundg (gk - 1)
        case measure => omega
        case rel => exact ⟨i + 1, by simp, by omega, HB4⟩
      · go_simp
        (go_must (refine HM.out.mono ?_); rintro e w3 ⟨y, rfl, hy, hb3⟩)
        have hb3' : Below wr.heap.size wr w3 := (Below.refl _ wr).drew.trans hb3
        obtain ⟨B1, d1, rfl, -⟩ := Sl.of_own hy
        have HS2 := Lib.hid (HSm.out w3 B1 d1 hb3' (Sl.of_own hy))
        have HB3 := Lib.hid hb3'
        have x3 : w3.cell? ⟨ba, oa + i, none⟩ = some (.slice A1 l.length c1) := by rw [hb3'.cell hlt]; exact x1
        clear hy hb3 hb3'
        go_simp
        refine hK _ _ ?_
        clear hK K
        refine rd 3 (by kernel_rfl) rfl (fun K hK => ?_)
        go_simp
        refine hK _ _ ?_
        clear hK K
        refine rd 11 (by kernel_rfl) rfl (fun K hK => ?_)
        go_simp
        (go_must (refine HS2.out.mono ?_); rintro e w4 ⟨rfl, hb4⟩)
        have hbb : decide (l = markP i 0 l.length) = true := decide_eq_true HL.out.2
        rw [hbb]
        have HB4 : Hid (Below W.heap.size W w4) := hbw.out.trans ((HB3.out.trans (hb4.mono HB3.out.size)).mono hbw.out.size)
        clear hb4 hbb
        go_simp
        refine hK _ _ ?_
        clear hK K
        refine rd 12 (by kernel_rfl) rfl (fun K hK => ?_)
        go_simp
        refine hK _ _ ?_
        clear hK K
        refine wpAny_done (by kernel_rfl) ?_ _
        go_wp2_with (fail)
        go_roundg (gk - 1)
        case measure => omega
        case rel => exact ⟨i + 1, by simp, by omega, HB4⟩
    · have h1' : ¬ (i : Int) < (n : Int) := by omega
      go_wp2_with (fail)
      go_ret
      exact ⟨rfl, hbw.out⟩
section
variable {W W' : World} {B g : Nat} {pv wv : Value} {ms ws : List Value}
set_option maxHeartbeats 2000000 in
set_option maxRecDepth 100000 in
theorem stillPairs_any (ls : List (List Pair)) (h : BookAt W B g pv wv ms ws) (hl : SlL W ms ls) (hl2 : SlL W ws ls) (hb : ∀ (i : Nat) (l : List Pair), ls[i]? = some l → l.length ≤ 10000) (hn : ms.length ≤ 1000) :
    Calls Tryz.prog 29 #[ptrV g] W fun e w' => e = .returned (.bool true) ∧ Below W.heap.size W w' := by
  obtain ⟨n, hn1⟩ : ∃ n, ms.length = n := ⟨_, rfl⟩
  have hn2 : ws.length = n := by rw [hl2.1, ← hl.1, hn1]
  have hp := Sl.of_own h.pr
  have hq := Sl.of_own h.wr
  rw [hn1] at hp
  rw [hn2] at hq
  obtain ⟨Ap, cp, rfl, -⟩ := Sl.of_own h.pr
  obtain ⟨Aw, cw, rfl, -⟩ := Sl.of_own h.wr
  rw [hn1] at hp hn
  rw [hn2] at hq
  have HA := Lib.hid (And.intro (And.intro hp hq) (And.intro (And.intro hl hl2) (And.intro h.blk (And.intro hn1 hn2))))
  clear h hl hl2 hp hq hn1 hn2
  go_enter Tryz.func29, Tryz.ntmps29
  go_wp2_with (fail)
  go_loopg [3] n (fun gk s3 wr => ∃ i : Nat, s3 = .int .i64 (i : Int) ∧ i + gk = n ∧ Hid (Below W.heap.size W wr))
  case atStart => exact ⟨0, rfl, by omega, Below.refl _ _⟩
  case round =>
    obtain ⟨i, rfl, hi, hbw⟩ := hrel
    have blk := HA.out.2.2.1.below' hbw.out
    have c8 : wr.cell? ⟨g, 8, none⟩ = some (.slice Ap ms.length cp) := blk.cell 8
    have c9 : wr.cell? ⟨g, 9, none⟩ = some (.slice Aw ws.length cw) := blk.cell 9
    rw [HA.out.2.2.2.1] at c8
    rw [HA.out.2.2.2.2] at c9
    clear blk
    by_cases h1 : i < n
    · have h1' : (i : Int) < (n : Int) := by omega
      have hi0 : (0 : Int) ≤ (i : Int) := by omega
      have hw1 : IntKind.i64.wrap ((i : Int) + 1) = (i : Int) + 1 := IntWalk.i64_in _ (by omega)
      obtain ⟨_, _, e0, _, _, hcl⟩ := HA.out.1.1.below hbw.out
      cases e0
      obtain ⟨ba, oa, rfl, _, hca⟩ := hcl (by omega)
      obtain ⟨_, _, e0, _, _, hcl2⟩ := HA.out.1.2.below hbw.out
      cases e0
      obtain ⟨bb, ob, rfl, _, hcb⟩ := hcl2 (by omega)
      obtain ⟨A1, c1, l, hv, hll, hs1⟩ := (HA.out.2.1.1.below hbw.out).take i (by rw [HA.out.2.2.2.1]; exact h1)
      obtain ⟨A2, c2, l2, hv2, hll2, hs2⟩ := (HA.out.2.1.2.below hbw.out).take i (by rw [HA.out.2.2.2.2]; exact h1)
      have hle : l2 = l := by rw [hll] at hll2; exact (Option.some.inj hll2).symm
      subst hle
      have x1 : wr.cell? ⟨ba, oa + i, none⟩ = _ := hca _ _ hv
      have y1 : wr.cell? ⟨bb, ob + i, none⟩ = _ := hcb _ _ hv2
      have hmb := hb i l2 hll
      have HS2 := Lib.hid (samePairs_any A1 A2 l2.length l2.length c1 c2 l2 l2 wr.drew hs1 hs2 (by omega) (by omega))
      clear hv hll hs1 hca hcl hv2 hll2 hs2 hcb hcl2
      go_wp2_with (fail)
      refine wp_region_any (by kernel_rfl) ?_
      change wpAny _ _ _ _ _ _ _ (World.drew _)
      try simp only [Act.put, lT, l0, lS]
      refine tk 0 (v := ?_) rfl (by kernel_rfl) (fun _ _ _ h => h) (by rfl) ?hy ?_
      case hy => intro w; go_simp; try with_reducible rfl
      try simp only [Act.put, lT, l0, lS]
      refine tk 1 (v := ?_) rfl (by kernel_rfl) (fun _ _ _ h => h) (by rfl) ?hy ?_
      case hy => intro w; go_simp; try with_reducible rfl
      try simp only [Act.put, lT, l0, lS]
      refine tk 2 (v := ?_) rfl (by kernel_rfl) (fun _ _ _ h => h) (by rfl) ?hy ?_
      case hy => intro w; go_simp; try with_reducible rfl
      try simp only [Act.put, lT, l0, lS]
      refine tk 4 (v := ?_) rfl (by kernel_rfl) (fun _ _ _ h => h) (by rfl) ?hy ?_
      case hy => intro w; go_simp; try with_reducible rfl
      try simp only [Act.put, lT, l0, lS]
      refine tk 7 (v := ?_) rfl (by kernel_rfl) (fun _ _ _ h => h) (by rfl) ?hy ?_
      case hy => intro w; go_simp; try with_reducible rfl
      try simp only [Act.put, lT, l0, lS]
      refine tk 8 (v := ?_) rfl (by kernel_rfl) (fun _ _ _ h => h) (by rfl) ?hy ?_
      case hy => intro w; go_simp; try with_reducible rfl
      try simp only [Act.put, lT, l0, lS]
      refine tk 9 (v := ?_) rfl (by kernel_rfl) (fun _ _ _ h => h) (by rfl) ?hy ?_
      case hy => intro w; go_simp; try with_reducible rfl
      try simp only [Act.put, lT, l0, lS]
      refine tk 11 (v := ?_) rfl (by kernel_rfl) (fun _ _ _ h => h) (by rfl) ?hy ?_
      case hy => intro w; go_simp; try with_reducible rfl
      try simp only [Act.put, lT, l0, lS]
      try simp only [Act.put, lT, l0, lS]
      refine tkR 3 (v := ?_) rfl (by kernel_rfl) (fun _ _ _ h => h) (by rfl) ?hy ?_
      case hy => intro w hE; have q0 := hE.cell c8; go_simp; try with_reducible rfl
      try simp only [Act.put, lT, l0, lS]
      try simp only [Act.put, lT, l0, lS]
      refine tk 5 (v := ?_) rfl (by kernel_rfl) (fun _ _ _ h => h) (by rfl) ?hy ?_
      case hy => intro w; go_simp; try with_reducible rfl
      try simp only [Act.put, lT, l0, lS]
      try simp only [Act.put, lT, l0, lS]
      refine tkR 6 (v := ?_) rfl (by kernel_rfl) (fun _ _ _ h => h) (by rfl) ?hy ?_
      case hy => intro w hE; have q0 := hE.cell x1; go_simp; try with_reducible rfl
      try simp only [Act.put, lT, l0, lS]
      try simp only [Act.put, lT, l0, lS]
      refine tkR 10 (v := ?_) rfl (by kernel_rfl) (fun _ _ _ h => h) (by rfl) ?hy ?_
      case hy => intro w hE; have q0 := hE.cell c9; go_simp; try with_reducible rfl
      try simp only [Act.put, lT, l0, lS]
      try simp only [Act.put, lT, l0, lS]
      refine tk 12 (v := ?_) rfl (by kernel_rfl) (fun _ _ _ h => h) (by rfl) ?hy ?_
      case hy => intro w; go_simp; try with_reducible rfl
      try simp only [Act.put, lT, l0, lS]
      try simp only [Act.put, lT, l0, lS]
      refine tkR 13 (v := ?_) rfl (by kernel_rfl) (fun _ _ _ h => h) (by rfl) ?hy ?_
      case hy => intro w hE; have q0 := hE.cell y1; go_simp; try with_reducible rfl
      try simp only [Act.put, lT, l0, lS]
      refine rd 14 (by kernel_rfl) rfl (fun K hK => ?_)
      go_simp
      (go_must (refine HS2.out.mono ?_); rintro e w4 ⟨rfl, hb4⟩)
      simp only [decide_true]
      have HB4 : Hid (Below W.heap.size W w4) := hbw.out.trans (((Below.refl _ wr).drew.trans hb4).mono hbw.out.size)
      clear hb4
      go_simp
      refine hK _ _ ?_
      clear hK K
      refine rd 15 (by kernel_rfl) rfl (fun K hK => ?_)
      go_simp
      refine hK _ _ ?_
      clear hK K
      refine wpAny_done (by kernel_rfl) ?_ _
      go_wp2_with (fail)
      go_roundg (gk - 1)
      case measure => omega
      case rel => exact ⟨i + 1, by simp, by omega, HB4⟩
    · have h1' : ¬ (i : Int) < (n : Int) := by omega
      go_wp2_with (fail)
      go_ret
      exact ⟨rfl, hbw.out⟩
end
end Go.Ev

set_option linter.unusedVariables false
set_option linter.unusedSimpArgs false
namespace Go.Ev
open Go.Proofs Go.RowKit
theorem pairsCs_set : ∀ (l : List Pair) (k : Nat) (q : Pair), ((pairsCs l).set (k * 2) (strV q.1)).set (k * 2 + 1) (strV q.2) = pairsCs (l.set k q)
  | [], k, q => by simp [pairsCs]
  | p :: l, 0, q => rfl
  | p :: l, k + 1, q => by
    rw [show (k + 1) * 2 = k * 2 + 1 + 1 by omega]
    show strV p.1 :: strV p.2 :: (((pairsCs l).set (k * 2) (strV q.1)).set (k * 2 + 1) (strV q.2)) = _
    rw [pairsCs_set l k q]
    rfl
theorem mark_set (i : Nat) (l : List Pair) (k : Nat) (h : k < l.length) : (markP i 0 k ++ l.drop k).set k (nameB i k, []) = markP i 0 (k + 1) ++ l.drop (k + 1) := by
  have h1 : (markP i 0 k).length ≤ k := by rw [markP_len]; exact Nat.le_refl _
  rw [List.drop_eq_getElem_cons h, markP_succ, List.set_append_right k _ h1, markP_len, Nat.sub_self, Nat.zero_add, List.append_assoc]
  congr 1
theorem markP_get (i n k : Nat) (h : k < (markP i 0 n).length) : (markP i 0 n)[k] = (nameB i k, []) := by simp [markP]
def Apart (ms : List Value) : Prop := ∀ (i j : Nat) (v u : Value), ms[i]? = some v → ms[j]? = some u → i ≠ j → ∀ k, v.ownBlock = some k → u.ownBlock ≠ some k
def OfP (ms : List Value) (k : Nat) : Prop := ∃ (i : Nat) (v : Value), ms[i]? = some v ∧ v.ownBlock = some k
def marksL (ls : List (List Pair)) (d : Nat) : List (List Pair) := ls.mapIdx fun i l => markP i 0 (l.length + d)
theorem marksL_at {ls : List (List Pair)} {d i : Nat} {l : List Pair} (h : (marksL ls d)[i]? = some l) : ∃ l0, ls[i]? = some l0 ∧ l = markP i 0 (l0.length + d) := by
  simp only [marksL, List.getElem?_mapIdx, Option.map_eq_some_iff] at h
  obtain ⟨l0, h1, h2⟩ := h
  exact ⟨l0, h1, h2.symm⟩
theorem marksL_len (ls : List (List Pair)) (d : Nat) : (marksL ls d).length = ls.length := by simp [marksL]
theorem marksL_ok {ls : List (List Pair)} {d : Nat} (hb : ∀ (i : Nat) (l : List Pair), ls[i]? = some l → l.length + d ≤ 10000) : ∀ (i : Nat) (l : List Pair), (marksL ls d)[i]? = some l → l = markP i 0 l.length ∧ l.length ≤ 10000 := by
  intro i l h
  obtain ⟨l0, h1, rfl⟩ := marksL_at h
  rw [markP_len]
  exact ⟨rfl, hb i l0 h1⟩
section
variable {W W' : World} {B B2 g : Nat} {pv wv : Value} {ms ws : List Value}
end
end Go.Ev

set_option linter.unusedVariables false
set_option linter.unusedSimpArgs false
namespace Go.Ev
open Go.Proofs Go.RowKit
theorem markP_app' (i m n : Nat) : markP i 0 m ++ markP i m n = markP i 0 (m + n) := by
  have := markP_app i 0 m n
  rw [Nat.zero_add] at this
  exact this
section
variable {W W' : World} {B B2 g : Nat} {pv wv : Value} {ms ws : List Value}
def One (wo : World) (i nl k : Nat) (A : Option Addr) (v : Value) (wr : World) : Prop := (k = 0 ∧ v = .slice A nl nl ∧ Sl wr 2 v nl (pairsCs (markP i 0 nl)) ∧ Below wo.heap.size wo wr) ∨ (0 < k ∧ wr.ownsRow wo.heap.size 59 2 v (nl + k) (pairsCs (markP i 0 (nl + k))) ∧ Below wo.heap.size wo wr)
end
end Go.Ev



set_option linter.unusedVariables false
set_option linter.unusedSimpArgs false
namespace Go.Ev
open Go.Proofs Go.RowKit
def RowsO (W : World) (B : Nat) (ws : List Value) (ls : List (List Pair)) : Prop := ws.length = ls.length ∧ ∀ (i : Nat) (v : Value) (l : List Pair), ws[i]? = some v → ls[i]? = some l → W.ownsRow B 59 2 v l.length (pairsCs l)
section
variable {W W' : World} {B B2 g : Nat} {pv wv : Value} {ms ws : List Value}
theorem RowsO.sl {ls : List (List Pair)} (h : RowsO W B ws ls) : SlL W ws ls := ⟨h.1, fun i v l h1 h2 => Sl.of_own (h.2 i v l h1 h2)⟩
theorem RowsO.below {ls : List (List Pair)} (h : RowsO W B ws ls) (hb : Below W.heap.size W W') : RowsO W' B ws ls := ⟨h.1, fun i v l h1 h2 => own_below (h.2 i v l h1 h2) hb⟩
theorem own_far {n : Nat} {v : Value} {l : List Pair} (h : W.ownsRow B2 59 2 v n (pairsCs l)) (hk : BookAt W B g pv wv ms ws) : ∀ k, v.ownBlock = some k → ¬ BookS g pv wv k := by
  rintro k h2 (rfl | hs | hs)
  · exact own_ne h hk.blk (by decide) _ h2 rfl
  · exact own_apart h hk.pr (by decide) k h2 hs
  · exact own_apart h hk.wr (by decide) k h2 hs
theorem RowsO.keepsB {ls : List (List Pair)} (h : RowsO W B2 ws ls) (hk : BookAt W B g pv wv ms ws) (hK : Keeps (BookS g pv wv) W W') : RowsO W' B2 ws ls :=
  ⟨h.1, fun i v l h1 h2 => own_keeps (h.2 i v l h1 h2) hK fun k e => own_far (h.2 i v l h1 h2) hk k e⟩
end
end Go.Ev

set_option linter.unusedVariables false
set_option linter.unusedSimpArgs false
namespace Go.Ev
open Go.Proofs Go.RowKit
section
variable {W W' : World} {B B2 g : Nat} {pv wv : Value} {ms ws : List Value}
theorem own_form {e : TypeId} {z n : Nat} {v : Value} {xs : List Value} (h : W.ownsRow B e z v n xs) : ∃ A c, v = .slice A n c ∧ (0 < n → ∃ g, A = some ⟨g, 0, none⟩) := by
  rcases h.2 with ⟨e, e2⟩ | ⟨g, cap, cur, e, _⟩
  · exact ⟨none, 0, by rw [e, e2], fun h => by omega⟩
  · exact ⟨_, cap, e, fun _ => ⟨g, rfl⟩⟩
theorem RowsO.far {ls : List (List Pair)} (h : RowsO W B2 ms ls) (hk : BookAt W B g pv wv ms ws) : ∀ k, BookS g pv wv k → ¬ OfP ms k := fun k hb ⟨i, v, hv, e⟩ => by
  obtain ⟨l, hl⟩ : ∃ l, ls[i]? = some l := ⟨_, List.getElem?_eq_getElem (by rw [← h.1]; exact (List.getElem?_eq_some_iff.1 hv).1)⟩
  exact own_far (h.2 i v l hv hl) hk k e hb
def PutO (W : World) (B : Nat) (ms : List Value) (ls : List (List Pair)) (i : Nat) : Prop := ∀ (j : Nat) (v : Value) (l : List Pair), ms[j]? = some v → ls[j]? = some l → W.ownsRow B 59 2 v l.length (pairsCs (if j < i then markP j 0 l.length else l))
theorem PutO.done {ls : List (List Pair)} (hl : ms.length = ls.length) {i : Nat} (hi : ms.length ≤ i) (h : PutO W B ms ls i) : RowsO W B ms (marksL ls 0) := by
  refine ⟨by rw [marksL_len, hl], fun j v l h1 h2 => ?_⟩
  obtain ⟨l0, h3, rfl⟩ := marksL_at h2
  have := h j v l0 h1 h3
  rw [if_pos (Nat.lt_of_lt_of_le (List.getElem?_eq_some_iff.1 h1).1 hi)] at this
  rw [markP_len]
  exact this
theorem PutO.step {ls : List (List Pair)} {W1 W2 : World} {i : Nat} {v u : Value} {l : List Pair} (ha : Apart ms) (h : PutO W B ms ls i) (hb : Below W.heap.size W W1) (hv : ms[i]? = some v) (hl : ls[i]? = some l) (hu : u = v)
    (hub : u.ownBlock = v.ownBlock) (hK : Keeps (fun j => u.ownBlock = some j) W1 W2) (ho : W2.ownsRow B 59 2 u l.length (pairsCs (markP i 0 l.length ++ l.drop l.length))) : PutO W2 B ms ls (i + 1) := by
  intro j v1 l1 h1 h2
  by_cases hj : j = i
  · subst hj
    rw [hv] at h1
    cases h1
    rw [hl] at h2
    cases h2
    rw [if_pos (by omega)]
    rw [List.drop_length, List.append_nil, hu] at ho
    exact ho
  · have h3 := own_keeps (own_below (h j v1 l1 h1 h2) hb) hK fun k hk e => ha j i v1 v h1 hv hj k hk (by rw [← hub]; exact e)
    by_cases h4 : j < i
    · rw [if_pos h4] at h3
      rw [if_pos (by omega)]
      exact h3
    · rw [if_neg h4] at h3
      rw [if_neg (by omega)]
      exact h3
set_option maxHeartbeats 4000000 in
set_option maxRecDepth 100000 in
theorem putPairsO_any (ls : List (List Pair)) (h : BookAt W B g pv wv ms ws) (hr : RowsO W B2 ms ls) (ha : Apart ms) (hb : ∀ (i : Nat) (l : List Pair), ls[i]? = some l → l.length ≤ 10000) (hn : ms.length ≤ 1000) :
    Calls Tryz.prog 42 #[ptrV g] W fun e w' => e = .returned (.tuple #[]) ∧ RowsO w' B2 ms (marksL ls 0) ∧ Keeps (OfP ms) W w' := by
  obtain ⟨n, hn1⟩ : ∃ n, ms.length = n := ⟨_, rfl⟩
  have hfar := hr.far h
  have hp := Sl.of_own h.pr
  rw [hn1] at hp hn
  obtain ⟨Ap, cp, rfl, -⟩ := Sl.of_own h.pr
  rw [hn1] at hp
  have h0 : PutO W B2 ms ls 0 := fun j v l h1 h2 => hr.2 j v l h1 h2
  have hpb : ∀ k, (Value.slice Ap ms.length cp).ownBlock = some k → k < W.heap.size ∧ ¬ OfP ms k := fun k hk => ⟨(h.pr.lt k hk).2, hfar k (.inr (.inl hk))⟩
  have HA := Lib.hid (And.intro (And.intro hp hpb) (And.intro (And.intro hr ha) (And.intro h.blk (And.intro hn1 (hfar g (.inl rfl))))))
  clear h hr ha hp hn1 hfar hpb
  go_enter Tryz.func42, Tryz.ntmps42
  go_wp2_with (fail)
  go_loopg [2, 3, 4] n (fun gk s2 s3 s4 wr => ∃ i : Nat, s2 = .int .i64 (i : Int) ∧ i + gk = n ∧ Hid (PutO wr B2 ms ls i) ∧ Hid (Keeps (OfP ms) W wr))
  case atStart => exact ⟨0, rfl, by omega, h0, Keeps.refl _ _⟩
  case round =>
    clear h0
    obtain ⟨i, rfl, hi, hput, hkw⟩ := hrel
    obtain ⟨wo, hwo⟩ : ∃ x, x = wr := ⟨_, rfl⟩
    subst hwo
    have blk := HA.out.2.2.1.keeps hkw.out HA.out.2.2.2.2
    have c8 : wo.cell? ⟨g, 8, none⟩ = some (.slice Ap ms.length cp) := blk.cell 8
    rw [HA.out.2.2.2.1] at c8
    have HBlk := Lib.hid blk
    clear blk
    by_cases h1 : i < n
    · have h1' : (i : Int) < (n : Int) := by omega
      have hi0 : (0 : Int) ≤ (i : Int) := by omega
      have hw1 : IntKind.i64.wrap ((i : Int) + 1) = (i : Int) + 1 := IntWalk.i64_in _ (by omega)
      have him : i < ms.length := by rw [HA.out.2.2.2.1]; exact h1
      obtain ⟨v, hv⟩ : ∃ v, ms[i]? = some v := ⟨_, List.getElem?_eq_getElem him⟩
      obtain ⟨l, hl⟩ : ∃ l, ls[i]? = some l := ⟨_, List.getElem?_eq_getElem (by rw [← HA.out.2.1.1.1]; exact him)⟩
      have hcl := hput.out i v l hv hl
      rw [if_neg (Nat.lt_irrefl _)] at hcl
      obtain ⟨A, cA, rfl, hAu0⟩ := own_form hcl
      obtain ⟨u, hcu⟩ : ∃ u, u = Value.slice A l.length cA := ⟨_, rfl⟩
      have hown := hcl
      rw [← hcu] at hown
      have hub : u.ownBlock = (Value.slice A l.length cA).ownBlock := by rw [hcu]
      have hAu : 0 < l.length → ∃ g cap, A = some ⟨g, 0, none⟩ ∧ u = .slice (some ⟨g, 0, none⟩) l.length cap := fun h => by
        obtain ⟨g, hg⟩ := hAu0 h
        exact ⟨g, cA, hg, by rw [hcu, hg]⟩
      obtain ⟨_, _, e0, _, _, hc⟩ := HA.out.1.1
      cases e0
      obtain ⟨ba, oa, rfl, hlt, hca⟩ := hc (by omega)
      have hba := HA.out.1.2 ba rfl
      have x1 : wo.cell? ⟨ba, oa + i, none⟩ = some (.slice A l.length cA) := by rw [hkw.out.cell hba.1 hba.2]; exact hca _ _ hv
      have hlb := hb i l hl
      have HM := Lib.hid (markPairs_any i 0 l.length wo (by omega) (by omega))
      have hbz : ba < wo.heap.size := Nat.lt_of_lt_of_le hba.1 hkw.out.size
      obtain ⟨nl, hnl⟩ : ∃ m, l.length = m := ⟨_, rfl⟩
      have HU := Lib.hid (And.intro hown (And.intro hcu (And.intro hub (And.intro hv (And.intro hl (And.intro hAu (And.intro hbz (And.intro hba.2 hnl))))))))
      rw [hnl] at x1 HM hlb
      clear hcl hAu0 hown hcu hub hAu hv hl hca hc hba hbz hlt hnl him
      go_wp2_with (fail)
      go_must (refine HM.out.mono ?_)
      rintro e w3 ⟨y, rfl, hy, hb3⟩
      obtain ⟨A3, d3, rfl, -⟩ := Sl.of_own hy
      have HY := Lib.hid (And.intro hy hb3)
      clear hy hb3 c8 x1
      go_wp2_with (fail)
      obtain ⟨gq, hgq⟩ : ∃ x, x = gk := ⟨_, rfl⟩
      subst hgq
      go_loopg [4] nl (fun gk s4 wr => ∃ k : Nat, s4 = .int .i64 (k : Int) ∧ k + gk = nl ∧ Hid (wr.ownsRow B2 59 2 u nl (pairsCs (markP i 0 k ++ l.drop k))) ∧ Hid (Keeps (fun j => u.ownBlock = some j) w3 wr))
      case atStart => exact ⟨0, rfl, by omega, by
        show World.ownsRow _ _ _ _ _ _ _
        have := own_below HU.out.1 HY.out.2
        rw [HU.out.2.2.2.2.2.2.2.2] at this
        exact this, Keeps.refl _ _⟩
      case round =>
        obtain ⟨k, rfl, hk, hrow, hku⟩ := hrel
        by_cases h2 : k < nl
        · have h2' : (k : Int) < (nl : Int) := by omega
          have hk0 : (0 : Int) ≤ (k : Int) := by omega
          have hw2 : IntKind.i64.wrap ((k : Int) + 1) = (k : Int) + 1 := IntWalk.i64_in _ (by omega)
          obtain ⟨g1, cap, hA1, hu1⟩ := HU.out.2.2.2.2.2.1 (by rw [HU.out.2.2.2.2.2.2.2.2]; omega)
          have hnl := HU.out.2.2.2.2.2.2.2.2
          rw [hnl] at hu1
          subst hA1 hu1
          have blk := (HBlk.out.below' HY.out.2).keeps hku.out (fun e => own_ne (own_below HU.out.1 HY.out.2) (HBlk.out.below' HY.out.2) (by decide) g e rfl)
          have c8 : wr.cell? ⟨g, 8, none⟩ = some (.slice (some ⟨ba, oa, none⟩) ms.length cp) := blk.cell 8
          rw [HA.out.2.2.2.1] at c8
          have x1 : wr.cell? ⟨ba, oa + i, none⟩ = some (.slice (some ⟨g1, 0, none⟩) nl cA) := by
            have hz := HU.out.2.2.2.2.2.2.1
            have hm : ms[i]? = some (.slice (some ⟨g1, 0, none⟩) l.length cA) := HU.out.2.2.2.1
            have hgo : g1 ≠ ba := fun e => HU.out.2.2.2.2.2.2.2.1 ⟨i, _, hm, by rw [e]; rfl⟩
            obtain ⟨_, _, e0, _, _, hc⟩ := HA.out.1.1
            cases e0
            obtain ⟨ba', oa', e1, hlt, hca⟩ := hc (by omega)
            cases e1
            rw [hku.out.cell (p := ⟨ba, oa + i, none⟩) (Nat.lt_of_lt_of_le hz HY.out.2.size) (fun e => hgo (Option.some.inj e)), HY.out.2.cell (p := ⟨ba, oa + i, none⟩) hz, hkw.out.cell (p := ⟨ba, oa + i, none⟩) hlt HU.out.2.2.2.2.2.2.2.1, ← hnl]
            exact hca _ _ hm
          have hym : Sl wr 2 (.slice A3 nl d3) nl (pairsCs (markP i 0 nl)) := (Sl.of_own (own_keeps HY.out.1 hku.out fun k hk e => by
            have e2 := (HY.out.1.lt k hk).1
            have e3 := (HU.out.1.lt k e).2
            omega))
          obtain ⟨_, _, e0, _, _, hcl⟩ := hym
          cases e0
          obtain ⟨bm, om, rfl, _, hcm⟩ := hcl (by omega)
          obtain ⟨p1, p2⟩ := pairsCs_at (markP i 0 nl) k (by rw [markP_len]; exact h2)
          rw [markP_get] at p1 p2
          have y1 : wr.cell? ⟨bm, om + k * 2, none⟩ = some (strV (nameB i k)) := hcm _ _ p1
          have y2 : wr.cell? ⟨bm, om + k * 2 + 1, none⟩ = some (strV []) := hcm _ _ p2
          have hrd : wr.drew.ownsRow B2 59 2 (.slice (some ⟨g1, 0, none⟩) nl cap) nl (pairsCs (markP i 0 k ++ l.drop k)) := hrow.out
          have hlen : (pairsCs (markP i 0 k ++ l.drop k)).length = nl * 2 := hrow.out.1
          have hcs := hrow.out.cells (g := g1) rfl
          have e0 := hcs (k * 2) _ (List.getElem?_eq_getElem (by omega))
          have e1 := hcs (k * 2 + 1) _ (List.getElem?_eq_getElem (by omega))
          rw [addr_add, Nat.zero_add] at e0 e1
          obtain ⟨u0, d0⟩ : ∃ u0, wr.cell? ⟨g1, k * 2, none⟩ = some u0 := ⟨_, e0⟩
          obtain ⟨u1, d1⟩ : ∃ u1, wr.cell? ⟨g1, k * 2 + 1, none⟩ = some u1 := ⟨_, e1⟩
          clear e0 e1
          have f0 : wr.frozen? ⟨g1, k * 2, none⟩ = false := hrow.out.frozenAt _
          have f1 : wr.frozen? ⟨g1, k * 2 + 1, none⟩ = false := hrow.out.frozenAt _
          obtain ⟨o0, _⟩ := hrd.stored (k * 2) (strV (nameB i k))
          obtain ⟨o1, _⟩ := o0.stored (k * 2 + 1) (strV [])
          rw [pairsCs_set _ k (nameB i k, []), mark_set i l k (by omega)] at o1
          have hk1 : Keeps (fun j => Value.ownBlock (.slice (some ⟨g1, 0, none⟩) nl cap) = some j) w3 ((wr.drew.setCell ⟨g1, k * 2, none⟩ (strV (nameB i k))).setCell ⟨g1, k * 2 + 1, none⟩ (strV [])) := (hku.out.drew.setCell (p := ⟨g1, k * 2, none⟩) (fun _ => rfl) _).setCell (p := ⟨g1, k * 2 + 1, none⟩) (fun _ => rfl) _
          have HO := Lib.hid (And.intro o1 hk1)
          clear o0 o1 hk1 hrd hlen hcs hcl hcm p1 p2 blk hnl hrow hku
          go_wp2_with (fail)
          refine wp_region_any (by kernel_rfl) ?_
          change wpAny _ _ _ _ _ _ _ (World.drew _)
          try simp only [Act.put, lT, l0, lS]
          refine tk 0 (v := ?_) rfl (by kernel_rfl) (fun _ _ _ h => h) (by rfl) ?hy ?_
          case hy => intro w; go_simp; try with_reducible rfl
          try simp only [Act.put, lT, l0, lS]
          refine tk 1 (v := ?_) rfl (by kernel_rfl) (fun _ _ _ h => h) (by rfl) ?hy ?_
          case hy => intro w; go_simp; try with_reducible rfl
          try simp only [Act.put, lT, l0, lS]
          refine tk 2 (v := ?_) rfl (by kernel_rfl) (fun _ _ _ h => h) (by rfl) ?hy ?_
          case hy => intro w; go_simp; try with_reducible rfl
          try simp only [Act.put, lT, l0, lS]
          refine tk 4 (v := ?_) rfl (by kernel_rfl) (fun _ _ _ h => h) (by rfl) ?hy ?_
          case hy => intro w; go_simp; try with_reducible rfl
          try simp only [Act.put, lT, l0, lS]
          refine tk 7 (v := ?_) rfl (by kernel_rfl) (fun _ _ _ h => h) (by rfl) ?hy ?_
          case hy => intro w; go_simp; try with_reducible rfl
          try simp only [Act.put, lT, l0, lS]
          refine tk 8 (v := ?_) rfl (by kernel_rfl) (fun _ _ _ h => h) (by rfl) ?hy ?_
          case hy => intro w; go_simp; try with_reducible rfl
          try simp only [Act.put, lT, l0, lS]
          refine tk 9 (v := ?_) rfl (by kernel_rfl) (fun _ _ _ h => h) (by rfl) ?hy ?_
          case hy => intro w; go_simp; try with_reducible rfl
          try simp only [Act.put, lT, l0, lS]
          refine tk 10 (v := ?_) rfl (by kernel_rfl) (fun _ _ _ h => h) (by rfl) ?hy ?_
          case hy => intro w; go_simp; try with_reducible rfl
          try simp only [Act.put, lT, l0, lS]
          try simp only [Act.put, lT, l0, lS]
          refine tkR 3 (v := ?_) rfl (by kernel_rfl) (fun _ _ _ h => h) (by rfl) ?hy ?_
          case hy => intro w hE; have q0 := hE.cell c8; go_simp; try with_reducible rfl
          try simp only [Act.put, lT, l0, lS]
          try simp only [Act.put, lT, l0, lS]
          refine tk 5 (v := ?_) rfl (by kernel_rfl) (fun _ _ _ h => h) (by rfl) ?hy ?_
          case hy => intro w; go_simp; try with_reducible rfl
          try simp only [Act.put, lT, l0, lS]
          try simp only [Act.put, lT, l0, lS]
          refine tkR 6 (v := ?_) rfl (by kernel_rfl) (fun _ _ _ h => h) (by rfl) ?hy ?_
          case hy => intro w hE; have q0 := hE.cell x1; go_simp; try with_reducible rfl
          try simp only [Act.put, lT, l0, lS]
          try simp only [Act.put, lT, l0, lS]
          refine tkR 11 (v := ?_) rfl (by kernel_rfl) (fun _ _ _ h => h) (by rfl) ?hy ?_
          case hy => intro w hE; have q0 := hE.cell y1; have q1 := hE.cell y2; go_simp; try with_reducible rfl
          try simp only [Act.put, lT, l0, lS]
          try simp only [Act.put, lT, l0, lS]
          refine tk 12 (v := ?_) rfl (by kernel_rfl) (fun _ _ _ h => h) (by rfl) ?hy ?_
          case hy => intro w; go_simp; try with_reducible rfl
          try simp only [Act.put, lT, l0, lS]
          refine rd 13 (by kernel_rfl) rfl (fun K hK => ?_)
          go_simp
          refine hK _ _ ?_
          clear hK K
          refine wpAny_done (by kernel_rfl) ?_ _
          go_wp2_with (fail)
          go_roundg (gk - 1)
          case measure => omega
          case rel => exact ⟨k + 1, by simp, by omega, HO.out.1, HO.out.2⟩
        · have h2' : ¬ (k : Int) < (nl : Int) := by omega
          have hkn : k = nl := by omega
          subst hkn
          have hnl := HU.out.2.2.2.2.2.2.2.2
          have HP := Lib.hid (PutO.step HA.out.2.1.2 hput.out HY.out.2 HU.out.2.2.2.1 HU.out.2.2.2.2.1 HU.out.2.1 HU.out.2.2.1 hku.out (by rw [hnl]; exact hrow.out))
          have HK := Lib.hid ((hkw.out.trans (S' := fun _ => False) (Keeps.of_below HY.out.2) fun _ _ h => h.elim).trans hku.out fun j _ e => ⟨i, _, HU.out.2.2.2.1, by rw [← HU.out.2.2.1]; exact e⟩)
          clear hnl hrow hku hput hkw
          go_wp2_with (fail)
          go_roundg (gq - 1)
          case measure => omega
          case rel => exact ⟨i + 1, by simp, by omega, HP.out, HK.out⟩
    · have h1' : ¬ (i : Int) < (n : Int) := by omega
      go_wp2_with (fail)
      go_end0
      exact ⟨rfl, hput.out.done HA.out.2.1.1.1 (by rw [HA.out.2.2.2.1]; omega), hkw.out⟩
end
end Go.Ev
