/-
  A piece is put behind the others (snap): through a channel that has room for one. Does a receiver take a piece (snap.takes): whatever the message. (Printed by snaptake_print.py.)
-/
import Derived.Test.YthfdbfbfldmmaaaGreatDoorMGvTake
import Derived.Deep.DeepMust
set_option linter.unusedVariables false
set_option linter.unusedSimpArgs false
set_option linter.unusedVariables false
set_option linter.unusedSimpArgs false
namespace Go.Ev
open Go.Proofs Go.RowKit Go.Conc
def rcvCs (bg : Bool) (fr ix tm : Int) (mem : Value) (done : Bool) (ch : Option Nat) (pv : Value) : Array Value :=
  #[.bool bg, .int .i64 fr, .int .i64 ix, .int .i64 tm, mem, .bool done, .chan ch, pv]
def ChanE (w : World) (c : Nat) : Prop := ∃ s r, w.heap[c]? = some (.chan 1 #[] false s r false)
theorem infoPS : (Tryz.prog.info? 28).map (fun i => (i.zero, i.size, i.bytes)) = some (some (.slice none 0 0), 1, 24) := by kernel_rfl
theorem infoPr : (Tryz.prog.info? 59).map (fun i => (i.zero, i.size, i.bytes)) = some (some (.agg #[.string ⟨#[]⟩, .string ⟨#[]⟩]), 2, 32) := by kernel_rfl
theorem mkPS (w : World) : (Instr.makeChan 31 (.int .i64 1)).run Tryz.prog w = .ok (.chan (some w.heap.size)) (w.alloc (.chan 1 #[] false 0 0 false)) := by
  obtain ⟨i, hi, _, _, hb⟩ := info_parts infoPS
  simpa using run_makeChan (P := Tryz.prog) (w := w) Tryz.underlying31 hi .i64 1 (by omega) (by rw [hb]; omega)
def RcvS (b : Nat) (ch : Option Nat) (pv : Value) (k : Nat) : Prop := k = b ∨ ch = some k ∨ pv.ownBlock = some k
structure RcvAt (W : World) (B b : Nat) (bg : Bool) (fr ix tm : Int) (mem : Value) (done : Bool) (ch : Option Nat) (pv : Value) (n : Nat) (xs : List Value) : Prop where
  blk : Blk W b 33 (rcvCs bg fr ix tm mem done ch pv)
  row : W.ownsRow B 59 2 pv n xs
  chan : ∀ c, ch = some c → ChanE W c ∧ B ≤ c
  low : B ≤ b
  far : pv.ownBlock ≠ some b
def PutP (B b : Nat) (bg : Bool) (fr ix tm : Int) (mem : Value) (done : Bool) (ch : Option Nat) (pv : Value) (n m : Nat) (xs qs : List Value) (w : World) (e : Ending) (w' : World) : Prop :=
  ∃ c pv', e = .returned (.tuple #[]) ∧ RcvAt w' B b bg fr ix tm mem done (some c) pv' (n + m) (xs ++ qs) ∧ (ch = some c ∨ w.heap.size ≤ c) ∧ (∀ k, pv'.ownBlock = some k → pv.ownBlock = some k ∨ w.heap.size ≤ k) ∧ Keeps (RcvS b ch pv) w w'
def CloneSays (w : World) (A : Option Addr) (m c : Nat) (qs : List Value) : Prop :=
  Calls Tryz.prog 23 #[.slice A m c] w fun e w' => ∃ v', e = .returned v' ∧ w'.ownsRow w.heap.size 59 2 v' m qs ∧ Below w.heap.size w w'
theorem eqlCh (w : World) (x : Option Nat) : (binOp .eql 31 (.chan x) (.chan none)).run Tryz.prog w = .ok (.bool (x == none)) w := by
  have hu := Tryz.underlying31
  have h : ∀ d : Nat, (Op.equalIn (d + 1) 31 (.chan x) (.chan none)).run Tryz.prog w = .ok (x == none) w := fun d => by
    simp [Op.equalIn, run_underlying hu]
  simp only [binOp]
  simp [Op.equal, Op.maxDepth, h 9999]
set_option maxHeartbeats 8000000 in
set_option maxRecDepth 100000 in
theorem put_ok (B b : Nat) (bg : Bool) (fr ix tm : Int) (mem : Value) (done : Bool) (ch : Option Nat) (pv : Value) (n m c : Nat) (xs qs : List Value) (A : Option Addr) (w : World) (h : RcvAt w B b bg fr ix tm mem done ch pv n xs) (hB : B ≤ w.heap.size) (hn : n ≤ 100000) (hm : m ≤ 100000) (h1q : ∀ u ∈ qs, u.oneCell' = true)
    (hC : ∀ W, Keeps (RcvS b ch pv) w W → CloneSays W A m c qs) :
    Calls Tryz.prog 22 #[.pointer (some ⟨b, 0, none⟩), .slice A m c] w (PutP B b bg fr ix tm mem done ch pv n m xs qs w) := by
  refine calls_of_wpN Tryz.func22 rfl ?_
  simp only [Tryz.ntmps22, List.size_toArray, List.length_cons, List.length_nil, Nat.reduceAdd, Nat.reduceSub, Array.replicate_succ, Array.replicate_zero, List.push_toArray, List.append_toArray, List.nil_append, List.cons_append]
  have hmk := mkPS
  obtain ⟨A0, c0, rfl, -⟩ := Sl.of_own h.row
  obtain ⟨J, hJ⟩ : ∃ J : Exit → Act → World → Prop, J = fun e a1 w1 => e = .normal ∧ ∃ c1 u5 u6 u7 u8 u9 u10 u11 u12 u13, a1 = { tmps := #[.pointer (some ⟨b, 0, none⟩), .slice A m c, undef, undef, undef, u5, u6, u7, u8, u9, u10, u11, u12, u13, undef, undef, undef, undef, undef, undef, undef, undef, undef, undef, undef, undef, undef, undef, undef, undef, undef, undef, undef, undef, undef, undef, undef, undef, undef, undef], defers := [] } ∧ RcvAt w1 B b bg fr ix tm mem done (some c1) (.slice A0 n c0) n xs ∧ (ch = some c1 ∨ w.heap.size ≤ c1) ∧ w.heap.size ≤ w1.heap.size ∧ Keeps (RcvS b ch (.slice A0 n c0)) w w1 := ⟨_, rfl⟩
  have HJ := Lib.hid hJ
  clear hJ
  refine wpN_seq (wpN_piece (Code.wp_mono (Q := J) ?_ ?_))
  case refine_2 =>
    have q6 : w.cell? ⟨b, 6, none⟩ = some (.chan ch) := h.blk.cell 6
    have f6 : w.frozen? ⟨b, 6, none⟩ = false := h.blk.frozen 6
    have hlt := h.blk.lt
    cases ch with
    | some c1 =>
      have e0 : ∀ w : World, (binOp .eql 31 (.chan (some c1)) (.chan none)).run Tryz.prog w = .ok (.bool false) w := fun w => eqlCh w (some c1)
      go_wp2
      rw [HJ.out]
      exact ⟨rfl, c1, _, _, _, _, _, _, _, _, _, rfl, h, .inl rfl, Nat.le_refl _, Keeps.refl _ _⟩
    | none =>
      have e0 : ∀ w : World, (binOp .eql 31 (.chan none) (.chan none)).run Tryz.prog w = .ok (.bool true) w := fun w => eqlCh w none
      go_wp2
      rw [HJ.out]
      have hblk : Blk (w.setCell ⟨b, 6, none⟩ (.chan (some w.heap.size))) b 33 (rcvCs bg fr ix tm mem done (some w.heap.size) (.slice A0 n c0)) := h.blk.set 6 _
      have hK1 : Keeps (RcvS b none (.slice A0 n c0)) w (w.setCell ⟨b, 6, none⟩ (.chan (some w.heap.size))) := (Keeps.refl _ w).setCell (fun _ => .inl rfl) _
      have hz : (w.setCell ⟨b, 6, none⟩ (.chan (some w.heap.size))).heap.size = w.heap.size := by simp
      refine ⟨rfl, w.heap.size, _, _, _, _, _, _, _, _, _, rfl, ⟨hblk.alloc _, own_keeps (own_keeps (S := fun k => k = b) h.row (Keeps.setCell (p := ⟨b, 6, none⟩) (Keeps.refl (fun k => k = b) w) (fun _ => rfl) _) (fun k e => fun e2 => h.far (e2 ▸ e))) (Keeps.of_below (S := fun _ => False) ((Below.refl _ _).alloc (Nat.le_refl _) _)) (fun _ _ h => h), fun c e => ?_, h.low, h.far⟩, .inr (Nat.le_refl _), by simp, hK1.alloc _⟩
      cases e
      have hg := heap_alloc_new (w.setCell ⟨b, 6, none⟩ (.chan (some w.heap.size))) (.chan 1 #[] false 0 0 false)
      rw [hz] at hg
      exact ⟨⟨0, 0, hg⟩, hB⟩
  rw [HJ.out]
  clear HJ J
  rintro e a1 w1 ⟨rfl, c1, u5, u6, u7, u8, u9, u10, u11, u12, u13, rfl, h1, hc1, hz1, hk1⟩
  show wpN _ _ _ _ _
  refine wpN_seq (wpN_seq (wpN_piece ?_))
  have q6 : w1.cell? ⟨b, 6, none⟩ = some (.chan (some c1)) := h1.blk.cell 6
  have hlt := h1.blk.lt
  have HC := hC w1 hk1
  unfold CloneSays at HC
  go_wp2_with (fail)
  go_must (refine HC.mono ?_)
  rintro e w2 ⟨v2, rfl, ho2, hb2⟩
  obtain ⟨A2, c2, rfl, -⟩ := Sl.of_own ho2
  have HO2 := Lib.hid ho2
  clear ho2
  go_wp2_with (fail)
  obtain ⟨s1, r1, hch1⟩ := (h1.chan c1 rfl).1
  have hlt1 : c1 < w1.heap.size := (Array.getElem?_eq_some_iff.1 hch1).1
  have hch2 : w2.heap[c1]? = some (.chan 1 #[] false s1 r1 false) := (hb2.block c1 hlt1).trans hch1
  refine wpN_seq (wpN_comm (cases := #[scase c1 (.slice A2 m c2) (.slice none 0 0)]) (blocking := false) (shape := .select) (w1 := w2) (w2 := w2.setChan c1 1 #[.slice A2 m c2] false (s1 + 1) r1 false) (v := .tuple #[goInt 0, .bool false]) rfl ?hr ?hs ?_)
  case hr => simp [go_sem, execOp, scase, Act.eval]
  case hs => exact fun fr cs es hh => step_lone_select_send_room (buf := #[]) hh hch2 (by decide)
  have hK2 := Keeps.chan w2 c1 1 #[.slice A2 m c2] false (s1 + 1) r1 false
  have hch3 : (w2.setChan c1 1 #[.slice A2 m c2] false (s1 + 1) r1 false).heap[c1]? = some (.chan 1 #[.slice A2 m c2] false (s1 + 1) r1 false) := heap_setChan _ _ _ _ _ _ _ _ (Nat.lt_of_lt_of_le hlt1 hb2.size)
  generalize w2.setChan c1 1 #[.slice A2 m c2] false (s1 + 1) r1 false = w3 at *
  go_wp2_with (fail)
  refine wpN_piece ?_
  go_wp2_with (fail)
  have hbc : b ≠ c1 := fun e => by
    have h2 : w1.heap[b]? = _ := h1.blk
    rw [e, hch1] at h2
    cases h2
  have hpc : ∀ k, (Value.slice A0 n c0).ownBlock = some k → ¬ k = c1 := fun k e e2 => by
    rcases h1.row.2 with ⟨e3, _⟩ | ⟨g, cap, cur, e3, _, hg, _⟩
    · rw [e3] at e; cases e
    · rw [e3] at e; cases e
      have e2 : g = c1 := e2
      rw [e2, hch1] at hg
      cases hg
  have hpc2 : ∀ k, (Value.slice A2 m c2).ownBlock = some k → ¬ k = c1 := fun k e e2 => by
    rcases HO2.out.2 with ⟨e3, _⟩ | ⟨g, cap, cur, e3, hgb, hg, _⟩
    · rw [e3] at e; cases e
    · rw [e3] at e; cases e
      have e2 : g = c1 := e2
      omega
  obtain ⟨μ, hμ⟩ : ∃ μ : Act → World → Nat, μ = fun _ W => match W.heap[c1]? with | some (.chan _ buf _ _ _ _) => buf.size | _ => 0 := ⟨_, rfl⟩
  obtain ⟨I, hI⟩ : ∃ I : Act → World → Prop, I = fun a W => ∃ u4 u5 u6 u7 u8 u9 u10 u11 u12 u13 u14 u15 u16 u17 u18 u19 u20 u21 u22 u23 u24 u25 u26 u27 u28 u29 u30 u31 u32 u33 u34 u35 u36 u37 u38 u39, a = { tmps := #[.pointer (some ⟨b, 0, none⟩), .slice A m c, undef, undef, u4, u5, u6, u7, u8, u9, u10, u11, u12, u13, u14, u15, u16, u17, u18, u19, u20, u21, u22, u23, u24, u25, u26, u27, u28, u29, u30, u31, u32, u33, u34, u35, u36, u37, u38, u39], defers := [] } ∧ (W = w3 ∨ (W.heap[c1]? = some (.chan 1 #[] false (s1 + 1) (r1 + 1) false) ∧ ∃ pv', RcvAt W B b bg fr ix tm mem done (some c1) pv' (n + m) (xs ++ qs) ∧ (∀ k, pv'.ownBlock = some k → (Value.slice A0 n c0).ownBlock = some k ∨ w.heap.size ≤ k) ∧ Keeps (RcvS b ch (.slice A0 n c0)) w W)) := ⟨_, rfl⟩
  have Hμ := Lib.hid hμ
  have HI := Lib.hid hI
  clear hμ hI
  refine wpN_block (wpN_loop I μ ?start ?round)
  case start =>
    rw [HI.out]
    exact ⟨_, _, _, _, _, _, _, _, _, _, _, _, _, _, _, _, _, _, _, _, _, _, _, _, _, _, _, _, _, _, _, _, _, _, _, _, rfl, .inl rfl⟩
  case round =>
    intro a W hIa
    rw [HI.out] at hIa
    obtain ⟨u4, u5, u6, u7, u8, u9, u10, u11, u12, u13, u14, u15, u16, u17, u18, u19, u20, u21, u22, u23, u24, u25, u26, u27, u28, u29, u30, u31, u32, u33, u34, u35, u36, u37, u38, u39, rfl, hst⟩ := hIa
    rcases hst with rfl | ⟨hcW, pv2, hR2, hat2, hK⟩
    · have hblk3 := (h1.blk.below' hb2).keeps hK2 hbc
      have q6 : W.cell? ⟨b, 6, none⟩ = some (.chan (some c1)) := hblk3.cell 6
      have q7 : W.cell? ⟨b, 7, none⟩ = some (.slice A0 n c0) := hblk3.cell 7
      have f7 : W.frozen? ⟨b, 7, none⟩ = false := hblk3.frozen 7
      have hlt3 := hblk3.lt
      refine wpN_block (wpN_seq (wpN_piece ?_))
      go_wp2_with (fail)
      refine wpN_seq (wpN_comm (cases := #[rcase c1 (.slice none 0 0)]) (blocking := false) (shape := .select) (w1 := W) (w2 := W.setChan c1 1 #[] false (s1 + 1) (r1 + 1) false) (v := .tuple #[goInt 0, .bool true, .slice A2 m c2]) rfl ?hr2 ?hs2 ?_)
      case hr2 => simp [go_sem, execOp, rcase, Act.eval]
      case hs2 => exact fun fr cs es hh => by simpa using step_lone_select_recv_buf hh hch3 (by simp)
      have hK4 := Keeps.chan W c1 1 #[] false (s1 + 1) (r1 + 1) false
      have hch4 : (W.setChan c1 1 #[] false (s1 + 1) (r1 + 1) false).heap[c1]? = some (.chan 1 #[] false (s1 + 1) (r1 + 1) false) := heap_setChan _ _ _ _ _ _ _ _ (Array.getElem?_eq_some_iff.1 hch3).1
      have hblk4 := hblk3.keeps hK4 hbc
      generalize W.setChan c1 1 #[] false (s1 + 1) (r1 + 1) false = w4 at *
      go_wp2_with (fail)
      refine wpN_piece ?_
      have q7 : w4.cell? ⟨b, 7, none⟩ = some (.slice A0 n c0) := hblk4.cell 7
      have f7 : w4.frozen? ⟨b, 7, none⟩ = false := hblk4.frozen 7
      have hlt4 := hblk4.lt
      have hrow4 : w4.ownsRow B 59 2 (.slice A0 n c0) n xs := own_keeps (own_keeps (own_keeps h1.row (Keeps.of_below (S := fun _ => False) hb2) (fun _ _ h => h)) hK2 hpc) hK4 hpc
      have ho4 : w4.ownsRow w1.heap.size 59 2 (.slice A2 m c2) m qs := own_keeps (own_keeps HO2.out hK2 hpc2) hK4 hpc2
      have hA2 : A2 = none → c2 = 0 := by
        rintro rfl
        rcases HO2.out.2 with ⟨e, _⟩ | ⟨_, _, _, e, _⟩
        · cases e; rfl
        · cases e
      have hB4 : B ≤ w4.heap.size := by
        have := hb2.size; have := hK2.size; have := hK4.size; omega
      obtain ⟨i0, hi, hz0, hz1, hz2⟩ := info_parts infoPr
      go_wp2_with (at_builtin; go_must (refine wpList_append_slAt rfl _ _ 28 rfl B 59 i0 _ 2 32 Tryz.underlying28 hi hz0 hz1 hz2 rfl (by decide) _ n xs rfl ?c0 A2 m c2 qs rfl ?c1 ?c2 ?c3 ?c4 ?c5 ?c6 ?_))
      case c0 =>
        exact hrow4
      case c1 => exact Sl.of_own ho4
      case c2 => exact hA2
      case c3 => exact h1q
      case c4 => unfold maxLen; omega
      case c5 => omega
      case c6 => exact hB4
      intro v5 w5 ho5 hg5 hat5
      have hblk5 : Blk w5 b 33 (rcvCs bg fr ix tm mem done (some c1) (.slice A0 n c0)) := (hg5.block b hlt4 (fun e => h.far e.symm)).trans hblk4
      have f7 : w5.frozen? ⟨b, 7, none⟩ = false := hblk5.frozen 7
      have q7 : w5.cell? ⟨b, 7, none⟩ = some (.slice A0 n c0) := hblk5.cell 7
      have hlt5 := hblk5.lt
      obtain ⟨A5, c5, rfl, -⟩ := Sl.of_own ho5
      have H5 := Lib.hid (And.intro ho5 (And.intro hg5 hat5))
      clear ho5 hg5 hat5
      go_wp2_with (fail)
      rw [HI.out, Hμ.out]
      obtain ⟨ho5, hg5, hat5⟩ := H5.out
      have hS4 : Keeps (fun k => k = b) w5 (w5.setCell ⟨b, 7, none⟩ (.slice A5 (n + m) c5)) := Keeps.setCell (p := ⟨b, 7, none⟩) (Keeps.refl (fun k => k = b) w5) (fun _ => rfl) _
      have hfar5 : (Value.slice A5 (n + m) c5).ownBlock ≠ some b := fun e => (hat5 b e).elim (fun e => h.far e) (fun e => absurd hlt4 (by omega))
      have hlt14 : c1 < w4.heap.size := (Array.getElem?_eq_some_iff.1 hch4).1
      have hch6 : (w5.setCell ⟨b, 7, none⟩ (.slice A5 (n + m) c5)).heap[c1]? = some (.chan 1 #[] false (s1 + 1) (r1 + 1) false) := (hS4.block c1 (Nat.lt_of_lt_of_le hlt14 hg5.size) (fun e => hbc e.symm)).trans ((hg5.block c1 hlt14 (fun e => hpc c1 e.symm rfl)).trans hch4)
      have hKall : Keeps (RcvS b ch (.slice A0 n c0)) w (w5.setCell ⟨b, 7, none⟩ (.slice A5 (n + m) c5)) := by
        have k1 : Keeps (fun k => k = c1) w1 w4 := ((Keeps.of_below (S := fun k => k = c1) hb2).trans hK2 (fun _ _ h => h)).trans hK4 (fun _ _ h => h)
        have k2 : Keeps (fun k => k = c1 ∨ (Value.slice A0 n c0).ownBlock = some k) w1 w5 := (k1.mono (fun _ _ h => .inl h)).grown hg5 (fun k e _ => .inr e)
        have k3 : Keeps (fun k => k = c1 ∨ (Value.slice A0 n c0).ownBlock = some k ∨ k = b) w1 _ := (k2.mono (fun _ _ h => h.elim .inl (fun h => .inr (.inl h)))).trans hS4 (fun _ _ h => .inr (.inr h))
        exact hk1.trans k3 (fun i hi h => h.elim (fun e => hc1.elim (fun e2 => .inr (.inl (e ▸ e2))) (fun e2 => absurd hi (by omega))) (fun h => h.elim (fun e => .inr (.inr e)) (fun e => .inl e)))
      refine ⟨⟨_, _, _, _, _, _, _, _, _, _, _, _, _, _, _, _, _, _, _, _, _, _, _, _, _, _, _, _, _, _, _, _, _, _, _, _, rfl, .inr ⟨hch6, _, ⟨hblk5.set 7 _, own_keeps ho5 hS4 (fun k e e2 => hfar5 (e2 ▸ e)), fun c e => ?_, h.low, hfar5⟩, fun k e => (hat5 k e).imp id (fun e2 => ?_), hKall⟩⟩, ?_⟩
      · cases e
        exact ⟨⟨_, _, hch6⟩, (h1.chan c1 rfl).2⟩
      · have := hb2.size; have := hK2.size; have := hK4.size; omega
      · simp [hch6, hch3]
    · have q6 : W.cell? ⟨b, 6, none⟩ = some (.chan (some c1)) := hR2.blk.cell 6
      have hltW := hR2.blk.lt
      refine wpN_block (wpN_seq (wpN_piece ?_))
      go_wp2_with (fail)
      refine wpN_seq (wpN_comm (cases := #[rcase c1 (.slice none 0 0)]) (blocking := false) (shape := .select) (w1 := W) (w2 := W) (v := .tuple #[goInt (-1), .bool false, .slice none 0 0]) rfl ?hr3 ?hs3 ?_)
      case hr3 => simp [go_sem, execOp, rcase, Act.eval]
      case hs3 => exact fun fr cs es hh => step_lone_select_default hh hcW
      go_wp2_with (fail)
      refine wpN_piece ?_
      go_wp2_with (fail)
      refine bodyPost_ret (results_none rfl _ _ _) rfl ?_
      exact ⟨c1, pv2, rfl, hR2, hc1, hat2, hK⟩
end Go.Ev

set_option linter.unusedVariables false
set_option linter.unusedSimpArgs false
namespace Go.Ev
open Go.Proofs Go.RowKit
structure MsgV where
  kind : Int
  fr : Int
  dst : Value
  term : Value
  ix : Int
  tm : Int
  commit : Value
  round : Value
  ok : Value
  done : Bool
  ents : Value
  mems : Value
  off : Int
  pairs : Value
def MsgV.cs (m : MsgV) : Array Value := #[.int .i64 m.kind, .int .i64 m.fr, m.dst, m.term, .int .i64 m.ix, .int .i64 m.tm, m.commit, m.round, m.ok, .bool m.done, m.ents, m.mems, .int .i64 m.off, m.pairs]
set_option maxHeartbeats 16000000 in
set_option maxRecDepth 100000 in
theorem takes_next (B b : Nat) (bg : Bool) (fr ix tm : Int) (mem : Value) (done : Bool) (ch : Option Nat) (pv : Value) (n : Nat) (xs : List Value) (m : MsgV) (w : World) (h : RcvAt w B b bg fr ix tm mem done ch pv n xs) (h0 : (m.off == 0) = false) :
    Calls Tryz.prog 21 #[.pointer (some ⟨b, 0, none⟩), .agg m.cs] w fun e w' => e = .returned (.bool (bg && m.fr == fr && m.ix == ix && m.tm == tm && !done && m.off == (n : Int))) ∧ Below w.heap.size w w' := by
  obtain ⟨A0, c0, rfl, -⟩ := Sl.of_own h.row
  obtain ⟨kind, mfr, dst, term, mix, mtm, commit, round, ok, mdone, ents, mems, off, pairs⟩ := m
  simp only [MsgV.cs] at h0 ⊢
  obtain ⟨vs, hvs⟩ : ∃ vs : Array Value, vs = #[.int .i64 kind, .int .i64 mfr, dst, term, .int .i64 mix, .int .i64 mtm, commit, round, ok, .bool mdone, ents, mems, .int .i64 off, pairs] := ⟨_, rfl⟩
  have hb : Blk (w.alloc (.cells vs 51)) b 33 (rcvCs bg fr ix tm mem done ch (.slice A0 n c0)) := h.blk.alloc _
  have hm : Blk (w.alloc (.cells vs 51)) w.heap.size 51 vs := Blk.new _ _ _
  rw [hvs] at hm hb
  clear hvs
  have hlt := h.blk.lt
  have e1 := hm.cell 1; have e4 := hm.cell 4; have e5 := hm.cell 5; have e12 := hm.cell 12
  have r0 := hb.cell 0; have r1 := hb.cell 1; have r2 := hb.cell 2; have r3 := hb.cell 3; have r5 := hb.cell 5; have r7 := hb.cell 7
  simp only [rcvCs, List.getElem?_toArray, List.getElem?_cons_succ, List.getElem?_cons_zero] at e1 e4 e5 e12 r0 r1 r2 r3 r5 r7
  have hfin : Below w.heap.size w (w.alloc (.cells #[.int .i64 kind, .int .i64 mfr, dst, term, .int .i64 mix, .int .i64 mtm, commit, round, ok, .bool mdone, ents, mems, .int .i64 off, pairs] 51)).drew.drew := (((Below.refl _ w).alloc (Nat.le_refl _) _).drew).drew
  clear hb hm h
  go_enter Tryz.func21, Tryz.ntmps21
  cases bg with
  | false =>
    simp only [Bool.false_and]
    go_wp2_with (fail)
    refine wp_region_any (by kernel_rfl) ?_
    change wpAny _ _ _ _ _ _ _ (World.drew _)
    try simp only [Act.put, lT, l0, lS]
    refine tk 0 (v := ?_) rfl (by kernel_rfl) (fun _ _ _ h => h) (by rfl) ?hy ?_
    case hy => intro w; go_simp; try with_reducible rfl
    try simp only [Act.put, lT, l0, lS]
    refine tk 1 (v := ?_) rfl (by kernel_rfl) (fun _ _ _ h => h) (by rfl) ?hy ?_
    case hy => intro w; go_simp; try with_reducible rfl
    try simp only [Act.put, lT, l0, lS]
    refine tk 2 (v := ?_) rfl (by kernel_rfl) (fun _ _ _ h => h) (by rfl) ?hy ?_
    case hy => intro w; go_simp; try with_reducible rfl
    try simp only [Act.put, lT, l0, lS]
    try simp only [Act.put, lT, l0, lS]
    refine tkR 3 (v := ?_) rfl (by kernel_rfl) (fun _ _ _ h => h) (by rfl) ?hy ?_
    case hy => intro w hE; have q0 := hE.cell r0; go_simp; try with_reducible rfl
    try simp only [Act.put, lT, l0, lS]
    try simp only [Act.put, lT, l0, lS]
    refine tk 4 (v := ?_) rfl (by kernel_rfl) (fun _ _ _ h => h) (by rfl) ?hy ?_
    case hy => intro w; go_simp; try with_reducible rfl
    try simp only [Act.put, lT, l0, lS]
    try simp only [Act.put, lT, l0, lS]
    refine sk 5 rfl (by kernel_rfl) (fun _ _ _ h => h) (by rfl) ?_
    try simp only [Act.put, lT, l0, lS]
    refine sk 6 rfl (by kernel_rfl) (fun _ _ _ h => h) (by rfl) ?_
    try simp only [Act.put, lT, l0, lS]
    refine sk 7 rfl (by kernel_rfl) (fun _ _ _ h => h) (by rfl) ?_
    try simp only [Act.put, lT, l0, lS]
    refine sk 8 rfl (by kernel_rfl) (fun _ _ _ h => h) (by rfl) ?_
    try simp only [Act.put, lT, l0, lS]
    refine sk 9 rfl (by kernel_rfl) (fun _ _ _ h => h) (by rfl) ?_
    try simp only [Act.put, lT, l0, lS]
    refine sk 10 rfl (by kernel_rfl) (fun _ _ _ h => h) (by rfl) ?_
    try simp only [Act.put, lT, l0, lS]
    refine sk 11 rfl (by kernel_rfl) (fun _ _ _ h => h) (by rfl) ?_
    try simp only [Act.put, lT, l0, lS]
    try simp only [Act.put, lT, l0, lS]
    refine tk 12 (v := ?_) rfl (by kernel_rfl) (fun _ _ _ h => h) (by rfl) ?hy ?_
    case hy => intro w; go_simp; try with_reducible rfl
    try simp only [Act.put, lT, l0, lS]
    refine tk 13 (v := ?_) rfl (by kernel_rfl) (fun _ _ _ h => h) (by rfl) ?hy ?_
    case hy => intro w; go_simp; try with_reducible rfl
    try simp only [Act.put, lT, l0, lS]
    try simp only [Act.put, lT, l0, lS]
    refine sk 14 rfl (by kernel_rfl) (fun _ _ _ h => h) (by rfl) ?_
    try simp only [Act.put, lT, l0, lS]
    refine sk 15 rfl (by kernel_rfl) (fun _ _ _ h => h) (by rfl) ?_
    try simp only [Act.put, lT, l0, lS]
    refine sk 16 rfl (by kernel_rfl) (fun _ _ _ h => h) (by rfl) ?_
    try simp only [Act.put, lT, l0, lS]
    refine sk 17 rfl (by kernel_rfl) (fun _ _ _ h => h) (by rfl) ?_
    try simp only [Act.put, lT, l0, lS]
    refine sk 18 rfl (by kernel_rfl) (fun _ _ _ h => h) (by rfl) ?_
    try simp only [Act.put, lT, l0, lS]
    refine sk 19 rfl (by kernel_rfl) (fun _ _ _ h => h) (by rfl) ?_
    try simp only [Act.put, lT, l0, lS]
    refine sk 20 rfl (by kernel_rfl) (fun _ _ _ h => h) (by rfl) ?_
    try simp only [Act.put, lT, l0, lS]
    try simp only [Act.put, lT, l0, lS]
    refine tk 21 (v := ?_) rfl (by kernel_rfl) (fun _ _ _ h => h) (by rfl) ?hy ?_
    case hy => intro w; go_simp; try with_reducible rfl
    try simp only [Act.put, lT, l0, lS]
    refine tk 22 (v := ?_) rfl (by kernel_rfl) (fun _ _ _ h => h) (by rfl) ?hy ?_
    case hy => intro w; go_simp; try with_reducible rfl
    try simp only [Act.put, lT, l0, lS]
    try simp only [Act.put, lT, l0, lS]
    refine sk 23 rfl (by kernel_rfl) (fun _ _ _ h => h) (by rfl) ?_
    try simp only [Act.put, lT, l0, lS]
    refine sk 24 rfl (by kernel_rfl) (fun _ _ _ h => h) (by rfl) ?_
    try simp only [Act.put, lT, l0, lS]
    refine sk 25 rfl (by kernel_rfl) (fun _ _ _ h => h) (by rfl) ?_
    try simp only [Act.put, lT, l0, lS]
    refine sk 26 rfl (by kernel_rfl) (fun _ _ _ h => h) (by rfl) ?_
    try simp only [Act.put, lT, l0, lS]
    refine sk 27 rfl (by kernel_rfl) (fun _ _ _ h => h) (by rfl) ?_
    try simp only [Act.put, lT, l0, lS]
    refine sk 28 rfl (by kernel_rfl) (fun _ _ _ h => h) (by rfl) ?_
    try simp only [Act.put, lT, l0, lS]
    refine sk 29 rfl (by kernel_rfl) (fun _ _ _ h => h) (by rfl) ?_
    try simp only [Act.put, lT, l0, lS]
    try simp only [Act.put, lT, l0, lS]
    refine tk 30 (v := ?_) rfl (by kernel_rfl) (fun _ _ _ h => h) (by rfl) ?hy ?_
    case hy => intro w; go_simp; try with_reducible rfl
    try simp only [Act.put, lT, l0, lS]
    refine tk 31 (v := ?_) rfl (by kernel_rfl) (fun _ _ _ h => h) (by rfl) ?hy ?_
    case hy => intro w; go_simp; try with_reducible rfl
    try simp only [Act.put, lT, l0, lS]
    refine wpAny_done (by kernel_rfl) ?_ _
    go_wp2_with (fail)
    refine wp_region_any (by kernel_rfl) ?_
    change wpAny _ _ _ _ _ _ _ (World.drew _)
    try simp only [Act.put, lT, l0, lS]
    refine tk 0 (v := ?_) rfl (by kernel_rfl) (fun _ _ _ h => h) (by rfl) ?hy ?_
    case hy => intro w; go_simp; try with_reducible rfl
    try simp only [Act.put, lT, l0, lS]
    refine tk 1 (v := ?_) rfl (by kernel_rfl) (fun _ _ _ h => h) (by rfl) ?hy ?_
    case hy => intro w; go_simp; try with_reducible rfl
    try simp only [Act.put, lT, l0, lS]
    try simp only [Act.put, lT, l0, lS]
    refine sk 2 rfl (by kernel_rfl) (fun _ _ _ h => h) (by rfl) ?_
    try simp only [Act.put, lT, l0, lS]
    refine sk 3 rfl (by kernel_rfl) (fun _ _ _ h => h) (by rfl) ?_
    try simp only [Act.put, lT, l0, lS]
    refine sk 4 rfl (by kernel_rfl) (fun _ _ _ h => h) (by rfl) ?_
    try simp only [Act.put, lT, l0, lS]
    refine sk 5 rfl (by kernel_rfl) (fun _ _ _ h => h) (by rfl) ?_
    try simp only [Act.put, lT, l0, lS]
    refine sk 6 rfl (by kernel_rfl) (fun _ _ _ h => h) (by rfl) ?_
    try simp only [Act.put, lT, l0, lS]
    try simp only [Act.put, lT, l0, lS]
    refine tk 7 (v := ?_) rfl (by kernel_rfl) (fun _ _ _ h => h) (by rfl) ?hy ?_
    case hy => intro w; go_simp; try with_reducible rfl
    try simp only [Act.put, lT, l0, lS]
    refine tk 8 (v := ?_) rfl (by kernel_rfl) (fun _ _ _ h => h) (by rfl) ?hy ?_
    case hy => intro w; go_simp; try with_reducible rfl
    try simp only [Act.put, lT, l0, lS]
    try simp only [Act.put, lT, l0, lS]
    refine sk 9 rfl (by kernel_rfl) (fun _ _ _ h => h) (by rfl) ?_
    try simp only [Act.put, lT, l0, lS]
    refine sk 10 rfl (by kernel_rfl) (fun _ _ _ h => h) (by rfl) ?_
    try simp only [Act.put, lT, l0, lS]
    refine sk 11 rfl (by kernel_rfl) (fun _ _ _ h => h) (by rfl) ?_
    try simp only [Act.put, lT, l0, lS]
    refine sk 12 rfl (by kernel_rfl) (fun _ _ _ h => h) (by rfl) ?_
    try simp only [Act.put, lT, l0, lS]
    refine sk 13 rfl (by kernel_rfl) (fun _ _ _ h => h) (by rfl) ?_
    try simp only [Act.put, lT, l0, lS]
    refine sk 14 rfl (by kernel_rfl) (fun _ _ _ h => h) (by rfl) ?_
    try simp only [Act.put, lT, l0, lS]
    refine sk 15 rfl (by kernel_rfl) (fun _ _ _ h => h) (by rfl) ?_
    try simp only [Act.put, lT, l0, lS]
    refine sk 16 rfl (by kernel_rfl) (fun _ _ _ h => h) (by rfl) ?_
    try simp only [Act.put, lT, l0, lS]
    try simp only [Act.put, lT, l0, lS]
    refine tk 17 (v := ?_) rfl (by kernel_rfl) (fun _ _ _ h => h) (by rfl) ?hy ?_
    case hy => intro w; go_simp; try with_reducible rfl
    try simp only [Act.put, lT, l0, lS]
    refine tk 18 (v := ?_) rfl (by kernel_rfl) (fun _ _ _ h => h) (by rfl) ?hy ?_
    case hy => intro w; go_simp; try with_reducible rfl
    try simp only [Act.put, lT, l0, lS]
    refine wpAny_done (by kernel_rfl) ?_ _
    go_wp2_with (fail)
    go_ret
    exact ⟨rfl, hfin⟩
  | true =>
    simp only [Bool.true_and]
    cases c1 : (mfr == fr)
    case' false =>
      simp only [Bool.false_and]
      go_wp2_with (fail)
      refine wp_region_any (by kernel_rfl) ?_
      change wpAny _ _ _ _ _ _ _ (World.drew _)
      try simp only [Act.put, lT, l0, lS]
      refine tk 0 (v := ?_) rfl (by kernel_rfl) (fun _ _ _ h => h) (by rfl) ?hy ?_
      case hy => intro w; go_simp; try with_reducible rfl
      try simp only [Act.put, lT, l0, lS]
      refine tk 1 (v := ?_) rfl (by kernel_rfl) (fun _ _ _ h => h) (by rfl) ?hy ?_
      case hy => intro w; go_simp; try with_reducible rfl
      try simp only [Act.put, lT, l0, lS]
      refine tk 2 (v := ?_) rfl (by kernel_rfl) (fun _ _ _ h => h) (by rfl) ?hy ?_
      case hy => intro w; go_simp; try with_reducible rfl
      try simp only [Act.put, lT, l0, lS]
      try simp only [Act.put, lT, l0, lS]
      refine tkR 3 (v := ?_) rfl (by kernel_rfl) (fun _ _ _ h => h) (by rfl) ?hy ?_
      case hy => intro w hE; have q0 := hE.cell r0; go_simp; try with_reducible rfl
      try simp only [Act.put, lT, l0, lS]
      try simp only [Act.put, lT, l0, lS]
      refine tk 4 (v := ?_) rfl (by kernel_rfl) (fun _ _ _ h => h) (by rfl) ?hy ?_
      case hy => intro w; go_simp; try with_reducible rfl
      try simp only [Act.put, lT, l0, lS]
      try simp only [Act.put, lT, l0, lS]
      refine tk 5 (v := ?_) rfl (by kernel_rfl) (fun _ _ _ h => h) (by rfl) ?hy ?_
      case hy => intro w; go_simp; try with_reducible rfl
      try simp only [Act.put, lT, l0, lS]
      refine tk 7 (v := ?_) rfl (by kernel_rfl) (fun _ _ _ h => h) (by rfl) ?hy ?_
      case hy => intro w; go_simp; try with_reducible rfl
      try simp only [Act.put, lT, l0, lS]
      refine tk 8 (v := ?_) rfl (by kernel_rfl) (fun _ _ _ h => h) (by rfl) ?hy ?_
      case hy => intro w; go_simp; try with_reducible rfl
      try simp only [Act.put, lT, l0, lS]
      refine tk 9 (v := ?_) rfl (by kernel_rfl) (fun _ _ _ h => h) (by rfl) ?hy ?_
      case hy => intro w; go_simp; try with_reducible rfl
      try simp only [Act.put, lT, l0, lS]
      try simp only [Act.put, lT, l0, lS]
      refine tkR 6 (v := ?_) rfl (by kernel_rfl) (fun _ _ _ h => h) (by rfl) ?hy ?_
      case hy => intro w hE; have q0 := hE.cell e1; go_simp; try with_reducible rfl
      try simp only [Act.put, lT, l0, lS]
      try simp only [Act.put, lT, l0, lS]
      refine tkR 10 (v := ?_) rfl (by kernel_rfl) (fun _ _ _ h => h) (by rfl) ?hy ?_
      case hy => intro w hE; have q0 := hE.cell r1; go_simp; try with_reducible rfl
      try simp only [Act.put, lT, l0, lS]
      try simp only [Act.put, lT, l0, lS]
      refine tk 11 (v := ?_) rfl (by kernel_rfl) (fun _ _ _ h => h) (by rfl) ?hy ?_
      case hy => intro w; go_simp; try with_reducible rfl
      try simp only [Act.put, lT, l0, lS]
      try simp only [c1]
      try simp only [Act.put, lT, l0, lS]
      refine tk 12 (v := ?_) rfl (by kernel_rfl) (fun _ _ _ h => h) (by rfl) ?hy ?_
      case hy => intro w; go_simp; try with_reducible rfl
      try simp only [Act.put, lT, l0, lS]
      refine tk 13 (v := ?_) rfl (by kernel_rfl) (fun _ _ _ h => h) (by rfl) ?hy ?_
      case hy => intro w; go_simp; try with_reducible rfl
      try simp only [Act.put, lT, l0, lS]
      try simp only [Act.put, lT, l0, lS]
      refine sk 14 rfl (by kernel_rfl) (fun _ _ _ h => h) (by rfl) ?_
      try simp only [Act.put, lT, l0, lS]
      refine sk 15 rfl (by kernel_rfl) (fun _ _ _ h => h) (by rfl) ?_
      try simp only [Act.put, lT, l0, lS]
      refine sk 16 rfl (by kernel_rfl) (fun _ _ _ h => h) (by rfl) ?_
      try simp only [Act.put, lT, l0, lS]
      refine sk 17 rfl (by kernel_rfl) (fun _ _ _ h => h) (by rfl) ?_
      try simp only [Act.put, lT, l0, lS]
      refine sk 18 rfl (by kernel_rfl) (fun _ _ _ h => h) (by rfl) ?_
      try simp only [Act.put, lT, l0, lS]
      refine sk 19 rfl (by kernel_rfl) (fun _ _ _ h => h) (by rfl) ?_
      try simp only [Act.put, lT, l0, lS]
      refine sk 20 rfl (by kernel_rfl) (fun _ _ _ h => h) (by rfl) ?_
      try simp only [Act.put, lT, l0, lS]
      try simp only [Act.put, lT, l0, lS]
      refine tk 21 (v := ?_) rfl (by kernel_rfl) (fun _ _ _ h => h) (by rfl) ?hy ?_
      case hy => intro w; go_simp; try with_reducible rfl
      try simp only [Act.put, lT, l0, lS]
      refine tk 22 (v := ?_) rfl (by kernel_rfl) (fun _ _ _ h => h) (by rfl) ?hy ?_
      case hy => intro w; go_simp; try with_reducible rfl
      try simp only [Act.put, lT, l0, lS]
      try simp only [Act.put, lT, l0, lS]
      refine sk 23 rfl (by kernel_rfl) (fun _ _ _ h => h) (by rfl) ?_
      try simp only [Act.put, lT, l0, lS]
      refine sk 24 rfl (by kernel_rfl) (fun _ _ _ h => h) (by rfl) ?_
      try simp only [Act.put, lT, l0, lS]
      refine sk 25 rfl (by kernel_rfl) (fun _ _ _ h => h) (by rfl) ?_
      try simp only [Act.put, lT, l0, lS]
      refine sk 26 rfl (by kernel_rfl) (fun _ _ _ h => h) (by rfl) ?_
      try simp only [Act.put, lT, l0, lS]
      refine sk 27 rfl (by kernel_rfl) (fun _ _ _ h => h) (by rfl) ?_
      try simp only [Act.put, lT, l0, lS]
      refine sk 28 rfl (by kernel_rfl) (fun _ _ _ h => h) (by rfl) ?_
      try simp only [Act.put, lT, l0, lS]
      refine sk 29 rfl (by kernel_rfl) (fun _ _ _ h => h) (by rfl) ?_
      try simp only [Act.put, lT, l0, lS]
      try simp only [Act.put, lT, l0, lS]
      refine tk 30 (v := ?_) rfl (by kernel_rfl) (fun _ _ _ h => h) (by rfl) ?hy ?_
      case hy => intro w; go_simp; try with_reducible rfl
      try simp only [Act.put, lT, l0, lS]
      refine tk 31 (v := ?_) rfl (by kernel_rfl) (fun _ _ _ h => h) (by rfl) ?hy ?_
      case hy => intro w; go_simp; try with_reducible rfl
      try simp only [Act.put, lT, l0, lS]
      refine wpAny_done (by kernel_rfl) ?_ _
      go_wp2_with (fail)
      refine wp_region_any (by kernel_rfl) ?_
      change wpAny _ _ _ _ _ _ _ (World.drew _)
      try simp only [Act.put, lT, l0, lS]
      refine tk 0 (v := ?_) rfl (by kernel_rfl) (fun _ _ _ h => h) (by rfl) ?hy ?_
      case hy => intro w; go_simp; try with_reducible rfl
      try simp only [Act.put, lT, l0, lS]
      refine tk 1 (v := ?_) rfl (by kernel_rfl) (fun _ _ _ h => h) (by rfl) ?hy ?_
      case hy => intro w; go_simp; try with_reducible rfl
      try simp only [Act.put, lT, l0, lS]
      try simp only [Act.put, lT, l0, lS]
      refine sk 2 rfl (by kernel_rfl) (fun _ _ _ h => h) (by rfl) ?_
      try simp only [Act.put, lT, l0, lS]
      refine sk 3 rfl (by kernel_rfl) (fun _ _ _ h => h) (by rfl) ?_
      try simp only [Act.put, lT, l0, lS]
      refine sk 4 rfl (by kernel_rfl) (fun _ _ _ h => h) (by rfl) ?_
      try simp only [Act.put, lT, l0, lS]
      refine sk 5 rfl (by kernel_rfl) (fun _ _ _ h => h) (by rfl) ?_
      try simp only [Act.put, lT, l0, lS]
      refine sk 6 rfl (by kernel_rfl) (fun _ _ _ h => h) (by rfl) ?_
      try simp only [Act.put, lT, l0, lS]
      try simp only [Act.put, lT, l0, lS]
      refine tk 7 (v := ?_) rfl (by kernel_rfl) (fun _ _ _ h => h) (by rfl) ?hy ?_
      case hy => intro w; go_simp; try with_reducible rfl
      try simp only [Act.put, lT, l0, lS]
      refine tk 8 (v := ?_) rfl (by kernel_rfl) (fun _ _ _ h => h) (by rfl) ?hy ?_
      case hy => intro w; go_simp; try with_reducible rfl
      try simp only [Act.put, lT, l0, lS]
      try simp only [Act.put, lT, l0, lS]
      refine sk 9 rfl (by kernel_rfl) (fun _ _ _ h => h) (by rfl) ?_
      try simp only [Act.put, lT, l0, lS]
      refine sk 10 rfl (by kernel_rfl) (fun _ _ _ h => h) (by rfl) ?_
      try simp only [Act.put, lT, l0, lS]
      refine sk 11 rfl (by kernel_rfl) (fun _ _ _ h => h) (by rfl) ?_
      try simp only [Act.put, lT, l0, lS]
      refine sk 12 rfl (by kernel_rfl) (fun _ _ _ h => h) (by rfl) ?_
      try simp only [Act.put, lT, l0, lS]
      refine sk 13 rfl (by kernel_rfl) (fun _ _ _ h => h) (by rfl) ?_
      try simp only [Act.put, lT, l0, lS]
      refine sk 14 rfl (by kernel_rfl) (fun _ _ _ h => h) (by rfl) ?_
      try simp only [Act.put, lT, l0, lS]
      refine sk 15 rfl (by kernel_rfl) (fun _ _ _ h => h) (by rfl) ?_
      try simp only [Act.put, lT, l0, lS]
      refine sk 16 rfl (by kernel_rfl) (fun _ _ _ h => h) (by rfl) ?_
      try simp only [Act.put, lT, l0, lS]
      try simp only [Act.put, lT, l0, lS]
      refine tk 17 (v := ?_) rfl (by kernel_rfl) (fun _ _ _ h => h) (by rfl) ?hy ?_
      case hy => intro w; go_simp; try with_reducible rfl
      try simp only [Act.put, lT, l0, lS]
      refine tk 18 (v := ?_) rfl (by kernel_rfl) (fun _ _ _ h => h) (by rfl) ?hy ?_
      case hy => intro w; go_simp; try with_reducible rfl
      try simp only [Act.put, lT, l0, lS]
      refine wpAny_done (by kernel_rfl) ?_ _
      go_wp2_with (fail)
      go_ret
      exact ⟨rfl, hfin⟩
    case' true =>
      simp only [Bool.true_and]
      cases c2 : (mix == ix)
      case' false =>
        simp only [Bool.false_and]
        go_wp2_with (fail)
        refine wp_region_any (by kernel_rfl) ?_
        change wpAny _ _ _ _ _ _ _ (World.drew _)
        try simp only [Act.put, lT, l0, lS]
        refine tk 0 (v := ?_) rfl (by kernel_rfl) (fun _ _ _ h => h) (by rfl) ?hy ?_
        case hy => intro w; go_simp; try with_reducible rfl
        try simp only [Act.put, lT, l0, lS]
        refine tk 1 (v := ?_) rfl (by kernel_rfl) (fun _ _ _ h => h) (by rfl) ?hy ?_
        case hy => intro w; go_simp; try with_reducible rfl
        try simp only [Act.put, lT, l0, lS]
        refine tk 2 (v := ?_) rfl (by kernel_rfl) (fun _ _ _ h => h) (by rfl) ?hy ?_
        case hy => intro w; go_simp; try with_reducible rfl
        try simp only [Act.put, lT, l0, lS]
        try simp only [Act.put, lT, l0, lS]
        refine tkR 3 (v := ?_) rfl (by kernel_rfl) (fun _ _ _ h => h) (by rfl) ?hy ?_
        case hy => intro w hE; have q0 := hE.cell r0; go_simp; try with_reducible rfl
        try simp only [Act.put, lT, l0, lS]
        try simp only [Act.put, lT, l0, lS]
        refine tk 4 (v := ?_) rfl (by kernel_rfl) (fun _ _ _ h => h) (by rfl) ?hy ?_
        case hy => intro w; go_simp; try with_reducible rfl
        try simp only [Act.put, lT, l0, lS]
        try simp only [Act.put, lT, l0, lS]
        refine tk 5 (v := ?_) rfl (by kernel_rfl) (fun _ _ _ h => h) (by rfl) ?hy ?_
        case hy => intro w; go_simp; try with_reducible rfl
        try simp only [Act.put, lT, l0, lS]
        refine tk 7 (v := ?_) rfl (by kernel_rfl) (fun _ _ _ h => h) (by rfl) ?hy ?_
        case hy => intro w; go_simp; try with_reducible rfl
        try simp only [Act.put, lT, l0, lS]
        refine tk 8 (v := ?_) rfl (by kernel_rfl) (fun _ _ _ h => h) (by rfl) ?hy ?_
        case hy => intro w; go_simp; try with_reducible rfl
        try simp only [Act.put, lT, l0, lS]
        refine tk 9 (v := ?_) rfl (by kernel_rfl) (fun _ _ _ h => h) (by rfl) ?hy ?_
        case hy => intro w; go_simp; try with_reducible rfl
        try simp only [Act.put, lT, l0, lS]
        try simp only [Act.put, lT, l0, lS]
        refine tkR 6 (v := ?_) rfl (by kernel_rfl) (fun _ _ _ h => h) (by rfl) ?hy ?_
        case hy => intro w hE; have q0 := hE.cell e1; go_simp; try with_reducible rfl
        try simp only [Act.put, lT, l0, lS]
        try simp only [Act.put, lT, l0, lS]
        refine tkR 10 (v := ?_) rfl (by kernel_rfl) (fun _ _ _ h => h) (by rfl) ?hy ?_
        case hy => intro w hE; have q0 := hE.cell r1; go_simp; try with_reducible rfl
        try simp only [Act.put, lT, l0, lS]
        try simp only [Act.put, lT, l0, lS]
        refine tk 11 (v := ?_) rfl (by kernel_rfl) (fun _ _ _ h => h) (by rfl) ?hy ?_
        case hy => intro w; go_simp; try with_reducible rfl
        try simp only [Act.put, lT, l0, lS]
        try simp only [c1]
        try simp only [Act.put, lT, l0, lS]
        refine tk 12 (v := ?_) rfl (by kernel_rfl) (fun _ _ _ h => h) (by rfl) ?hy ?_
        case hy => intro w; go_simp; try with_reducible rfl
        try simp only [Act.put, lT, l0, lS]
        refine tk 13 (v := ?_) rfl (by kernel_rfl) (fun _ _ _ h => h) (by rfl) ?hy ?_
        case hy => intro w; go_simp; try with_reducible rfl
        try simp only [Act.put, lT, l0, lS]
        try simp only [Act.put, lT, l0, lS]
        refine tk 14 (v := ?_) rfl (by kernel_rfl) (fun _ _ _ h => h) (by rfl) ?hy ?_
        case hy => intro w; go_simp; try with_reducible rfl
        try simp only [Act.put, lT, l0, lS]
        refine tk 16 (v := ?_) rfl (by kernel_rfl) (fun _ _ _ h => h) (by rfl) ?hy ?_
        case hy => intro w; go_simp; try with_reducible rfl
        try simp only [Act.put, lT, l0, lS]
        refine tk 17 (v := ?_) rfl (by kernel_rfl) (fun _ _ _ h => h) (by rfl) ?hy ?_
        case hy => intro w; go_simp; try with_reducible rfl
        try simp only [Act.put, lT, l0, lS]
        refine tk 18 (v := ?_) rfl (by kernel_rfl) (fun _ _ _ h => h) (by rfl) ?hy ?_
        case hy => intro w; go_simp; try with_reducible rfl
        try simp only [Act.put, lT, l0, lS]
        try simp only [Act.put, lT, l0, lS]
        refine tkR 15 (v := ?_) rfl (by kernel_rfl) (fun _ _ _ h => h) (by rfl) ?hy ?_
        case hy => intro w hE; have q0 := hE.cell e4; go_simp; try with_reducible rfl
        try simp only [Act.put, lT, l0, lS]
        try simp only [Act.put, lT, l0, lS]
        refine tkR 19 (v := ?_) rfl (by kernel_rfl) (fun _ _ _ h => h) (by rfl) ?hy ?_
        case hy => intro w hE; have q0 := hE.cell r2; go_simp; try with_reducible rfl
        try simp only [Act.put, lT, l0, lS]
        try simp only [Act.put, lT, l0, lS]
        refine tk 20 (v := ?_) rfl (by kernel_rfl) (fun _ _ _ h => h) (by rfl) ?hy ?_
        case hy => intro w; go_simp; try with_reducible rfl
        try simp only [Act.put, lT, l0, lS]
        try simp only [c2]
        try simp only [Act.put, lT, l0, lS]
        refine tk 21 (v := ?_) rfl (by kernel_rfl) (fun _ _ _ h => h) (by rfl) ?hy ?_
        case hy => intro w; go_simp; try with_reducible rfl
        try simp only [Act.put, lT, l0, lS]
        refine tk 22 (v := ?_) rfl (by kernel_rfl) (fun _ _ _ h => h) (by rfl) ?hy ?_
        case hy => intro w; go_simp; try with_reducible rfl
        try simp only [Act.put, lT, l0, lS]
        try simp only [Act.put, lT, l0, lS]
        refine sk 23 rfl (by kernel_rfl) (fun _ _ _ h => h) (by rfl) ?_
        try simp only [Act.put, lT, l0, lS]
        refine sk 24 rfl (by kernel_rfl) (fun _ _ _ h => h) (by rfl) ?_
        try simp only [Act.put, lT, l0, lS]
        refine sk 25 rfl (by kernel_rfl) (fun _ _ _ h => h) (by rfl) ?_
        try simp only [Act.put, lT, l0, lS]
        refine sk 26 rfl (by kernel_rfl) (fun _ _ _ h => h) (by rfl) ?_
        try simp only [Act.put, lT, l0, lS]
        refine sk 27 rfl (by kernel_rfl) (fun _ _ _ h => h) (by rfl) ?_
        try simp only [Act.put, lT, l0, lS]
        refine sk 28 rfl (by kernel_rfl) (fun _ _ _ h => h) (by rfl) ?_
        try simp only [Act.put, lT, l0, lS]
        refine sk 29 rfl (by kernel_rfl) (fun _ _ _ h => h) (by rfl) ?_
        try simp only [Act.put, lT, l0, lS]
        try simp only [Act.put, lT, l0, lS]
        refine tk 30 (v := ?_) rfl (by kernel_rfl) (fun _ _ _ h => h) (by rfl) ?hy ?_
        case hy => intro w; go_simp; try with_reducible rfl
        try simp only [Act.put, lT, l0, lS]
        refine tk 31 (v := ?_) rfl (by kernel_rfl) (fun _ _ _ h => h) (by rfl) ?hy ?_
        case hy => intro w; go_simp; try with_reducible rfl
        try simp only [Act.put, lT, l0, lS]
        refine wpAny_done (by kernel_rfl) ?_ _
        go_wp2_with (fail)
        refine wp_region_any (by kernel_rfl) ?_
        change wpAny _ _ _ _ _ _ _ (World.drew _)
        try simp only [Act.put, lT, l0, lS]
        refine tk 0 (v := ?_) rfl (by kernel_rfl) (fun _ _ _ h => h) (by rfl) ?hy ?_
        case hy => intro w; go_simp; try with_reducible rfl
        try simp only [Act.put, lT, l0, lS]
        refine tk 1 (v := ?_) rfl (by kernel_rfl) (fun _ _ _ h => h) (by rfl) ?hy ?_
        case hy => intro w; go_simp; try with_reducible rfl
        try simp only [Act.put, lT, l0, lS]
        try simp only [Act.put, lT, l0, lS]
        refine sk 2 rfl (by kernel_rfl) (fun _ _ _ h => h) (by rfl) ?_
        try simp only [Act.put, lT, l0, lS]
        refine sk 3 rfl (by kernel_rfl) (fun _ _ _ h => h) (by rfl) ?_
        try simp only [Act.put, lT, l0, lS]
        refine sk 4 rfl (by kernel_rfl) (fun _ _ _ h => h) (by rfl) ?_
        try simp only [Act.put, lT, l0, lS]
        refine sk 5 rfl (by kernel_rfl) (fun _ _ _ h => h) (by rfl) ?_
        try simp only [Act.put, lT, l0, lS]
        refine sk 6 rfl (by kernel_rfl) (fun _ _ _ h => h) (by rfl) ?_
        try simp only [Act.put, lT, l0, lS]
        try simp only [Act.put, lT, l0, lS]
        refine tk 7 (v := ?_) rfl (by kernel_rfl) (fun _ _ _ h => h) (by rfl) ?hy ?_
        case hy => intro w; go_simp; try with_reducible rfl
        try simp only [Act.put, lT, l0, lS]
        refine tk 8 (v := ?_) rfl (by kernel_rfl) (fun _ _ _ h => h) (by rfl) ?hy ?_
        case hy => intro w; go_simp; try with_reducible rfl
        try simp only [Act.put, lT, l0, lS]
        try simp only [Act.put, lT, l0, lS]
        refine sk 9 rfl (by kernel_rfl) (fun _ _ _ h => h) (by rfl) ?_
        try simp only [Act.put, lT, l0, lS]
        refine sk 10 rfl (by kernel_rfl) (fun _ _ _ h => h) (by rfl) ?_
        try simp only [Act.put, lT, l0, lS]
        refine sk 11 rfl (by kernel_rfl) (fun _ _ _ h => h) (by rfl) ?_
        try simp only [Act.put, lT, l0, lS]
        refine sk 12 rfl (by kernel_rfl) (fun _ _ _ h => h) (by rfl) ?_
        try simp only [Act.put, lT, l0, lS]
        refine sk 13 rfl (by kernel_rfl) (fun _ _ _ h => h) (by rfl) ?_
        try simp only [Act.put, lT, l0, lS]
        refine sk 14 rfl (by kernel_rfl) (fun _ _ _ h => h) (by rfl) ?_
        try simp only [Act.put, lT, l0, lS]
        refine sk 15 rfl (by kernel_rfl) (fun _ _ _ h => h) (by rfl) ?_
        try simp only [Act.put, lT, l0, lS]
        refine sk 16 rfl (by kernel_rfl) (fun _ _ _ h => h) (by rfl) ?_
        try simp only [Act.put, lT, l0, lS]
        try simp only [Act.put, lT, l0, lS]
        refine tk 17 (v := ?_) rfl (by kernel_rfl) (fun _ _ _ h => h) (by rfl) ?hy ?_
        case hy => intro w; go_simp; try with_reducible rfl
        try simp only [Act.put, lT, l0, lS]
        refine tk 18 (v := ?_) rfl (by kernel_rfl) (fun _ _ _ h => h) (by rfl) ?hy ?_
        case hy => intro w; go_simp; try with_reducible rfl
        try simp only [Act.put, lT, l0, lS]
        refine wpAny_done (by kernel_rfl) ?_ _
        go_wp2_with (fail)
        go_ret
        exact ⟨rfl, hfin⟩
      case' true =>
        simp only [Bool.true_and]
        cases c3 : (mtm == tm)
        case' false =>
          simp only [Bool.false_and]
          go_wp2_with (fail)
          refine wp_region_any (by kernel_rfl) ?_
          change wpAny _ _ _ _ _ _ _ (World.drew _)
          try simp only [Act.put, lT, l0, lS]
          refine tk 0 (v := ?_) rfl (by kernel_rfl) (fun _ _ _ h => h) (by rfl) ?hy ?_
          case hy => intro w; go_simp; try with_reducible rfl
          try simp only [Act.put, lT, l0, lS]
          refine tk 1 (v := ?_) rfl (by kernel_rfl) (fun _ _ _ h => h) (by rfl) ?hy ?_
          case hy => intro w; go_simp; try with_reducible rfl
          try simp only [Act.put, lT, l0, lS]
          refine tk 2 (v := ?_) rfl (by kernel_rfl) (fun _ _ _ h => h) (by rfl) ?hy ?_
          case hy => intro w; go_simp; try with_reducible rfl
          try simp only [Act.put, lT, l0, lS]
          try simp only [Act.put, lT, l0, lS]
          refine tkR 3 (v := ?_) rfl (by kernel_rfl) (fun _ _ _ h => h) (by rfl) ?hy ?_
          case hy => intro w hE; have q0 := hE.cell r0; go_simp; try with_reducible rfl
          try simp only [Act.put, lT, l0, lS]
          try simp only [Act.put, lT, l0, lS]
          refine tk 4 (v := ?_) rfl (by kernel_rfl) (fun _ _ _ h => h) (by rfl) ?hy ?_
          case hy => intro w; go_simp; try with_reducible rfl
          try simp only [Act.put, lT, l0, lS]
          try simp only [Act.put, lT, l0, lS]
          refine tk 5 (v := ?_) rfl (by kernel_rfl) (fun _ _ _ h => h) (by rfl) ?hy ?_
          case hy => intro w; go_simp; try with_reducible rfl
          try simp only [Act.put, lT, l0, lS]
          refine tk 7 (v := ?_) rfl (by kernel_rfl) (fun _ _ _ h => h) (by rfl) ?hy ?_
          case hy => intro w; go_simp; try with_reducible rfl
          try simp only [Act.put, lT, l0, lS]
          refine tk 8 (v := ?_) rfl (by kernel_rfl) (fun _ _ _ h => h) (by rfl) ?hy ?_
          case hy => intro w; go_simp; try with_reducible rfl
          try simp only [Act.put, lT, l0, lS]
          refine tk 9 (v := ?_) rfl (by kernel_rfl) (fun _ _ _ h => h) (by rfl) ?hy ?_
          case hy => intro w; go_simp; try with_reducible rfl
          try simp only [Act.put, lT, l0, lS]
          try simp only [Act.put, lT, l0, lS]
          refine tkR 6 (v := ?_) rfl (by kernel_rfl) (fun _ _ _ h => h) (by rfl) ?hy ?_
          case hy => intro w hE; have q0 := hE.cell e1; go_simp; try with_reducible rfl
          try simp only [Act.put, lT, l0, lS]
          try simp only [Act.put, lT, l0, lS]
          refine tkR 10 (v := ?_) rfl (by kernel_rfl) (fun _ _ _ h => h) (by rfl) ?hy ?_
          case hy => intro w hE; have q0 := hE.cell r1; go_simp; try with_reducible rfl
          try simp only [Act.put, lT, l0, lS]
          try simp only [Act.put, lT, l0, lS]
          refine tk 11 (v := ?_) rfl (by kernel_rfl) (fun _ _ _ h => h) (by rfl) ?hy ?_
          case hy => intro w; go_simp; try with_reducible rfl
          try simp only [Act.put, lT, l0, lS]
          try simp only [c1]
          try simp only [Act.put, lT, l0, lS]
          refine tk 12 (v := ?_) rfl (by kernel_rfl) (fun _ _ _ h => h) (by rfl) ?hy ?_
          case hy => intro w; go_simp; try with_reducible rfl
          try simp only [Act.put, lT, l0, lS]
          refine tk 13 (v := ?_) rfl (by kernel_rfl) (fun _ _ _ h => h) (by rfl) ?hy ?_
          case hy => intro w; go_simp; try with_reducible rfl
          try simp only [Act.put, lT, l0, lS]
          try simp only [Act.put, lT, l0, lS]
          refine tk 14 (v := ?_) rfl (by kernel_rfl) (fun _ _ _ h => h) (by rfl) ?hy ?_
          case hy => intro w; go_simp; try with_reducible rfl
          try simp only [Act.put, lT, l0, lS]
          refine tk 16 (v := ?_) rfl (by kernel_rfl) (fun _ _ _ h => h) (by rfl) ?hy ?_
          case hy => intro w; go_simp; try with_reducible rfl
          try simp only [Act.put, lT, l0, lS]
          refine tk 17 (v := ?_) rfl (by kernel_rfl) (fun _ _ _ h => h) (by rfl) ?hy ?_
          case hy => intro w; go_simp; try with_reducible rfl
          try simp only [Act.put, lT, l0, lS]
          refine tk 18 (v := ?_) rfl (by kernel_rfl) (fun _ _ _ h => h) (by rfl) ?hy ?_
          case hy => intro w; go_simp; try with_reducible rfl
          try simp only [Act.put, lT, l0, lS]
          try simp only [Act.put, lT, l0, lS]
          refine tkR 15 (v := ?_) rfl (by kernel_rfl) (fun _ _ _ h => h) (by rfl) ?hy ?_
          case hy => intro w hE; have q0 := hE.cell e4; go_simp; try with_reducible rfl
          try simp only [Act.put, lT, l0, lS]
          try simp only [Act.put, lT, l0, lS]
          refine tkR 19 (v := ?_) rfl (by kernel_rfl) (fun _ _ _ h => h) (by rfl) ?hy ?_
          case hy => intro w hE; have q0 := hE.cell r2; go_simp; try with_reducible rfl
          try simp only [Act.put, lT, l0, lS]
          try simp only [Act.put, lT, l0, lS]
          refine tk 20 (v := ?_) rfl (by kernel_rfl) (fun _ _ _ h => h) (by rfl) ?hy ?_
          case hy => intro w; go_simp; try with_reducible rfl
          try simp only [Act.put, lT, l0, lS]
          try simp only [c2]
          try simp only [Act.put, lT, l0, lS]
          refine tk 21 (v := ?_) rfl (by kernel_rfl) (fun _ _ _ h => h) (by rfl) ?hy ?_
          case hy => intro w; go_simp; try with_reducible rfl
          try simp only [Act.put, lT, l0, lS]
          refine tk 22 (v := ?_) rfl (by kernel_rfl) (fun _ _ _ h => h) (by rfl) ?hy ?_
          case hy => intro w; go_simp; try with_reducible rfl
          try simp only [Act.put, lT, l0, lS]
          try simp only [Act.put, lT, l0, lS]
          refine tk 23 (v := ?_) rfl (by kernel_rfl) (fun _ _ _ h => h) (by rfl) ?hy ?_
          case hy => intro w; go_simp; try with_reducible rfl
          try simp only [Act.put, lT, l0, lS]
          refine tk 25 (v := ?_) rfl (by kernel_rfl) (fun _ _ _ h => h) (by rfl) ?hy ?_
          case hy => intro w; go_simp; try with_reducible rfl
          try simp only [Act.put, lT, l0, lS]
          refine tk 26 (v := ?_) rfl (by kernel_rfl) (fun _ _ _ h => h) (by rfl) ?hy ?_
          case hy => intro w; go_simp; try with_reducible rfl
          try simp only [Act.put, lT, l0, lS]
          refine tk 27 (v := ?_) rfl (by kernel_rfl) (fun _ _ _ h => h) (by rfl) ?hy ?_
          case hy => intro w; go_simp; try with_reducible rfl
          try simp only [Act.put, lT, l0, lS]
          try simp only [Act.put, lT, l0, lS]
          refine tkR 24 (v := ?_) rfl (by kernel_rfl) (fun _ _ _ h => h) (by rfl) ?hy ?_
          case hy => intro w hE; have q0 := hE.cell e5; go_simp; try with_reducible rfl
          try simp only [Act.put, lT, l0, lS]
          try simp only [Act.put, lT, l0, lS]
          refine tkR 28 (v := ?_) rfl (by kernel_rfl) (fun _ _ _ h => h) (by rfl) ?hy ?_
          case hy => intro w hE; have q0 := hE.cell r3; go_simp; try with_reducible rfl
          try simp only [Act.put, lT, l0, lS]
          try simp only [Act.put, lT, l0, lS]
          refine tk 29 (v := ?_) rfl (by kernel_rfl) (fun _ _ _ h => h) (by rfl) ?hy ?_
          case hy => intro w; go_simp; try with_reducible rfl
          try simp only [Act.put, lT, l0, lS]
          try simp only [c3]
          try simp only [Act.put, lT, l0, lS]
          refine tk 30 (v := ?_) rfl (by kernel_rfl) (fun _ _ _ h => h) (by rfl) ?hy ?_
          case hy => intro w; go_simp; try with_reducible rfl
          try simp only [Act.put, lT, l0, lS]
          refine tk 31 (v := ?_) rfl (by kernel_rfl) (fun _ _ _ h => h) (by rfl) ?hy ?_
          case hy => intro w; go_simp; try with_reducible rfl
          try simp only [Act.put, lT, l0, lS]
          refine wpAny_done (by kernel_rfl) ?_ _
          go_wp2_with (fail)
          refine wp_region_any (by kernel_rfl) ?_
          change wpAny _ _ _ _ _ _ _ (World.drew _)
          try simp only [Act.put, lT, l0, lS]
          refine tk 0 (v := ?_) rfl (by kernel_rfl) (fun _ _ _ h => h) (by rfl) ?hy ?_
          case hy => intro w; go_simp; try with_reducible rfl
          try simp only [Act.put, lT, l0, lS]
          refine tk 1 (v := ?_) rfl (by kernel_rfl) (fun _ _ _ h => h) (by rfl) ?hy ?_
          case hy => intro w; go_simp; try with_reducible rfl
          try simp only [Act.put, lT, l0, lS]
          try simp only [Act.put, lT, l0, lS]
          refine sk 2 rfl (by kernel_rfl) (fun _ _ _ h => h) (by rfl) ?_
          try simp only [Act.put, lT, l0, lS]
          refine sk 3 rfl (by kernel_rfl) (fun _ _ _ h => h) (by rfl) ?_
          try simp only [Act.put, lT, l0, lS]
          refine sk 4 rfl (by kernel_rfl) (fun _ _ _ h => h) (by rfl) ?_
          try simp only [Act.put, lT, l0, lS]
          refine sk 5 rfl (by kernel_rfl) (fun _ _ _ h => h) (by rfl) ?_
          try simp only [Act.put, lT, l0, lS]
          refine sk 6 rfl (by kernel_rfl) (fun _ _ _ h => h) (by rfl) ?_
          try simp only [Act.put, lT, l0, lS]
          try simp only [Act.put, lT, l0, lS]
          refine tk 7 (v := ?_) rfl (by kernel_rfl) (fun _ _ _ h => h) (by rfl) ?hy ?_
          case hy => intro w; go_simp; try with_reducible rfl
          try simp only [Act.put, lT, l0, lS]
          refine tk 8 (v := ?_) rfl (by kernel_rfl) (fun _ _ _ h => h) (by rfl) ?hy ?_
          case hy => intro w; go_simp; try with_reducible rfl
          try simp only [Act.put, lT, l0, lS]
          try simp only [Act.put, lT, l0, lS]
          refine sk 9 rfl (by kernel_rfl) (fun _ _ _ h => h) (by rfl) ?_
          try simp only [Act.put, lT, l0, lS]
          refine sk 10 rfl (by kernel_rfl) (fun _ _ _ h => h) (by rfl) ?_
          try simp only [Act.put, lT, l0, lS]
          refine sk 11 rfl (by kernel_rfl) (fun _ _ _ h => h) (by rfl) ?_
          try simp only [Act.put, lT, l0, lS]
          refine sk 12 rfl (by kernel_rfl) (fun _ _ _ h => h) (by rfl) ?_
          try simp only [Act.put, lT, l0, lS]
          refine sk 13 rfl (by kernel_rfl) (fun _ _ _ h => h) (by rfl) ?_
          try simp only [Act.put, lT, l0, lS]
          refine sk 14 rfl (by kernel_rfl) (fun _ _ _ h => h) (by rfl) ?_
          try simp only [Act.put, lT, l0, lS]
          refine sk 15 rfl (by kernel_rfl) (fun _ _ _ h => h) (by rfl) ?_
          try simp only [Act.put, lT, l0, lS]
          refine sk 16 rfl (by kernel_rfl) (fun _ _ _ h => h) (by rfl) ?_
          try simp only [Act.put, lT, l0, lS]
          try simp only [Act.put, lT, l0, lS]
          refine tk 17 (v := ?_) rfl (by kernel_rfl) (fun _ _ _ h => h) (by rfl) ?hy ?_
          case hy => intro w; go_simp; try with_reducible rfl
          try simp only [Act.put, lT, l0, lS]
          refine tk 18 (v := ?_) rfl (by kernel_rfl) (fun _ _ _ h => h) (by rfl) ?hy ?_
          case hy => intro w; go_simp; try with_reducible rfl
          try simp only [Act.put, lT, l0, lS]
          refine wpAny_done (by kernel_rfl) ?_ _
          go_wp2_with (fail)
          go_ret
          exact ⟨rfl, hfin⟩
        case' true =>
          simp only [Bool.true_and]
          cases done with
          | true =>
            simp only [Bool.not_true, Bool.false_and]
            go_wp2_with (fail)
            refine wp_region_any (by kernel_rfl) ?_
            change wpAny _ _ _ _ _ _ _ (World.drew _)
            try simp only [Act.put, lT, l0, lS]
            refine tk 0 (v := ?_) rfl (by kernel_rfl) (fun _ _ _ h => h) (by rfl) ?hy ?_
            case hy => intro w; go_simp; try with_reducible rfl
            try simp only [Act.put, lT, l0, lS]
            refine tk 1 (v := ?_) rfl (by kernel_rfl) (fun _ _ _ h => h) (by rfl) ?hy ?_
            case hy => intro w; go_simp; try with_reducible rfl
            try simp only [Act.put, lT, l0, lS]
            refine tk 2 (v := ?_) rfl (by kernel_rfl) (fun _ _ _ h => h) (by rfl) ?hy ?_
            case hy => intro w; go_simp; try with_reducible rfl
            try simp only [Act.put, lT, l0, lS]
            try simp only [Act.put, lT, l0, lS]
            refine tkR 3 (v := ?_) rfl (by kernel_rfl) (fun _ _ _ h => h) (by rfl) ?hy ?_
            case hy => intro w hE; have q0 := hE.cell r0; go_simp; try with_reducible rfl
            try simp only [Act.put, lT, l0, lS]
            try simp only [Act.put, lT, l0, lS]
            refine tk 4 (v := ?_) rfl (by kernel_rfl) (fun _ _ _ h => h) (by rfl) ?hy ?_
            case hy => intro w; go_simp; try with_reducible rfl
            try simp only [Act.put, lT, l0, lS]
            try simp only [Act.put, lT, l0, lS]
            refine tk 5 (v := ?_) rfl (by kernel_rfl) (fun _ _ _ h => h) (by rfl) ?hy ?_
            case hy => intro w; go_simp; try with_reducible rfl
            try simp only [Act.put, lT, l0, lS]
            refine tk 7 (v := ?_) rfl (by kernel_rfl) (fun _ _ _ h => h) (by rfl) ?hy ?_
            case hy => intro w; go_simp; try with_reducible rfl
            try simp only [Act.put, lT, l0, lS]
            refine tk 8 (v := ?_) rfl (by kernel_rfl) (fun _ _ _ h => h) (by rfl) ?hy ?_
            case hy => intro w; go_simp; try with_reducible rfl
            try simp only [Act.put, lT, l0, lS]
            refine tk 9 (v := ?_) rfl (by kernel_rfl) (fun _ _ _ h => h) (by rfl) ?hy ?_
            case hy => intro w; go_simp; try with_reducible rfl
            try simp only [Act.put, lT, l0, lS]
            try simp only [Act.put, lT, l0, lS]
            refine tkR 6 (v := ?_) rfl (by kernel_rfl) (fun _ _ _ h => h) (by rfl) ?hy ?_
            case hy => intro w hE; have q0 := hE.cell e1; go_simp; try with_reducible rfl
            try simp only [Act.put, lT, l0, lS]
            try simp only [Act.put, lT, l0, lS]
            refine tkR 10 (v := ?_) rfl (by kernel_rfl) (fun _ _ _ h => h) (by rfl) ?hy ?_
            case hy => intro w hE; have q0 := hE.cell r1; go_simp; try with_reducible rfl
            try simp only [Act.put, lT, l0, lS]
            try simp only [Act.put, lT, l0, lS]
            refine tk 11 (v := ?_) rfl (by kernel_rfl) (fun _ _ _ h => h) (by rfl) ?hy ?_
            case hy => intro w; go_simp; try with_reducible rfl
            try simp only [Act.put, lT, l0, lS]
            try simp only [c1]
            try simp only [Act.put, lT, l0, lS]
            refine tk 12 (v := ?_) rfl (by kernel_rfl) (fun _ _ _ h => h) (by rfl) ?hy ?_
            case hy => intro w; go_simp; try with_reducible rfl
            try simp only [Act.put, lT, l0, lS]
            refine tk 13 (v := ?_) rfl (by kernel_rfl) (fun _ _ _ h => h) (by rfl) ?hy ?_
            case hy => intro w; go_simp; try with_reducible rfl
            try simp only [Act.put, lT, l0, lS]
            try simp only [Act.put, lT, l0, lS]
            refine tk 14 (v := ?_) rfl (by kernel_rfl) (fun _ _ _ h => h) (by rfl) ?hy ?_
            case hy => intro w; go_simp; try with_reducible rfl
            try simp only [Act.put, lT, l0, lS]
            refine tk 16 (v := ?_) rfl (by kernel_rfl) (fun _ _ _ h => h) (by rfl) ?hy ?_
            case hy => intro w; go_simp; try with_reducible rfl
            try simp only [Act.put, lT, l0, lS]
            refine tk 17 (v := ?_) rfl (by kernel_rfl) (fun _ _ _ h => h) (by rfl) ?hy ?_
            case hy => intro w; go_simp; try with_reducible rfl
            try simp only [Act.put, lT, l0, lS]
            refine tk 18 (v := ?_) rfl (by kernel_rfl) (fun _ _ _ h => h) (by rfl) ?hy ?_
            case hy => intro w; go_simp; try with_reducible rfl
            try simp only [Act.put, lT, l0, lS]
            try simp only [Act.put, lT, l0, lS]
            refine tkR 15 (v := ?_) rfl (by kernel_rfl) (fun _ _ _ h => h) (by rfl) ?hy ?_
            case hy => intro w hE; have q0 := hE.cell e4; go_simp; try with_reducible rfl
            try simp only [Act.put, lT, l0, lS]
            try simp only [Act.put, lT, l0, lS]
            refine tkR 19 (v := ?_) rfl (by kernel_rfl) (fun _ _ _ h => h) (by rfl) ?hy ?_
            case hy => intro w hE; have q0 := hE.cell r2; go_simp; try with_reducible rfl
            try simp only [Act.put, lT, l0, lS]
            try simp only [Act.put, lT, l0, lS]
            refine tk 20 (v := ?_) rfl (by kernel_rfl) (fun _ _ _ h => h) (by rfl) ?hy ?_
            case hy => intro w; go_simp; try with_reducible rfl
            try simp only [Act.put, lT, l0, lS]
            try simp only [c2]
            try simp only [Act.put, lT, l0, lS]
            refine tk 21 (v := ?_) rfl (by kernel_rfl) (fun _ _ _ h => h) (by rfl) ?hy ?_
            case hy => intro w; go_simp; try with_reducible rfl
            try simp only [Act.put, lT, l0, lS]
            refine tk 22 (v := ?_) rfl (by kernel_rfl) (fun _ _ _ h => h) (by rfl) ?hy ?_
            case hy => intro w; go_simp; try with_reducible rfl
            try simp only [Act.put, lT, l0, lS]
            try simp only [Act.put, lT, l0, lS]
            refine tk 23 (v := ?_) rfl (by kernel_rfl) (fun _ _ _ h => h) (by rfl) ?hy ?_
            case hy => intro w; go_simp; try with_reducible rfl
            try simp only [Act.put, lT, l0, lS]
            refine tk 25 (v := ?_) rfl (by kernel_rfl) (fun _ _ _ h => h) (by rfl) ?hy ?_
            case hy => intro w; go_simp; try with_reducible rfl
            try simp only [Act.put, lT, l0, lS]
            refine tk 26 (v := ?_) rfl (by kernel_rfl) (fun _ _ _ h => h) (by rfl) ?hy ?_
            case hy => intro w; go_simp; try with_reducible rfl
            try simp only [Act.put, lT, l0, lS]
            refine tk 27 (v := ?_) rfl (by kernel_rfl) (fun _ _ _ h => h) (by rfl) ?hy ?_
            case hy => intro w; go_simp; try with_reducible rfl
            try simp only [Act.put, lT, l0, lS]
            try simp only [Act.put, lT, l0, lS]
            refine tkR 24 (v := ?_) rfl (by kernel_rfl) (fun _ _ _ h => h) (by rfl) ?hy ?_
            case hy => intro w hE; have q0 := hE.cell e5; go_simp; try with_reducible rfl
            try simp only [Act.put, lT, l0, lS]
            try simp only [Act.put, lT, l0, lS]
            refine tkR 28 (v := ?_) rfl (by kernel_rfl) (fun _ _ _ h => h) (by rfl) ?hy ?_
            case hy => intro w hE; have q0 := hE.cell r3; go_simp; try with_reducible rfl
            try simp only [Act.put, lT, l0, lS]
            try simp only [Act.put, lT, l0, lS]
            refine tk 29 (v := ?_) rfl (by kernel_rfl) (fun _ _ _ h => h) (by rfl) ?hy ?_
            case hy => intro w; go_simp; try with_reducible rfl
            try simp only [Act.put, lT, l0, lS]
            try simp only [c3]
            try simp only [Act.put, lT, l0, lS]
            refine tk 30 (v := ?_) rfl (by kernel_rfl) (fun _ _ _ h => h) (by rfl) ?hy ?_
            case hy => intro w; go_simp; try with_reducible rfl
            try simp only [Act.put, lT, l0, lS]
            refine tk 31 (v := ?_) rfl (by kernel_rfl) (fun _ _ _ h => h) (by rfl) ?hy ?_
            case hy => intro w; go_simp; try with_reducible rfl
            try simp only [Act.put, lT, l0, lS]
            refine wpAny_done (by kernel_rfl) ?_ _
            go_wp2_with (fail)
            refine wp_region_any (by kernel_rfl) ?_
            change wpAny _ _ _ _ _ _ _ (World.drew _)
            try simp only [Act.put, lT, l0, lS]
            refine tk 0 (v := ?_) rfl (by kernel_rfl) (fun _ _ _ h => h) (by rfl) ?hy ?_
            case hy => intro w; go_simp; try with_reducible rfl
            try simp only [Act.put, lT, l0, lS]
            refine tk 1 (v := ?_) rfl (by kernel_rfl) (fun _ _ _ h => h) (by rfl) ?hy ?_
            case hy => intro w; go_simp; try with_reducible rfl
            try simp only [Act.put, lT, l0, lS]
            try simp only [Act.put, lT, l0, lS]
            refine tk 2 (v := ?_) rfl (by kernel_rfl) (fun _ _ _ h => h) (by rfl) ?hy ?_
            case hy => intro w; go_simp; try with_reducible rfl
            try simp only [Act.put, lT, l0, lS]
            refine tk 3 (v := ?_) rfl (by kernel_rfl) (fun _ _ _ h => h) (by rfl) ?hy ?_
            case hy => intro w; go_simp; try with_reducible rfl
            try simp only [Act.put, lT, l0, lS]
            refine tk 4 (v := ?_) rfl (by kernel_rfl) (fun _ _ _ h => h) (by rfl) ?hy ?_
            case hy => intro w; go_simp; try with_reducible rfl
            try simp only [Act.put, lT, l0, lS]
            try simp only [Act.put, lT, l0, lS]
            refine tkR 5 (v := ?_) rfl (by kernel_rfl) (fun _ _ _ h => h) (by rfl) ?hy ?_
            case hy => intro w hE; have q0 := hE.cell r5; go_simp; try with_reducible rfl
            try simp only [Act.put, lT, l0, lS]
            try simp only [Act.put, lT, l0, lS]
            refine tk 6 (v := ?_) rfl (by kernel_rfl) (fun _ _ _ h => h) (by rfl) ?hy ?_
            case hy => intro w; go_simp; try with_reducible rfl
            try simp only [Act.put, lT, l0, lS]
            refine tk 7 (v := ?_) rfl (by kernel_rfl) (fun _ _ _ h => h) (by rfl) ?hy ?_
            case hy => intro w; go_simp; try with_reducible rfl
            try simp only [Act.put, lT, l0, lS]
            refine tk 8 (v := ?_) rfl (by kernel_rfl) (fun _ _ _ h => h) (by rfl) ?hy ?_
            case hy => intro w; go_simp; try with_reducible rfl
            try simp only [Act.put, lT, l0, lS]
            try simp only [Act.put, lT, l0, lS]
            refine sk 9 rfl (by kernel_rfl) (fun _ _ _ h => h) (by rfl) ?_
            try simp only [Act.put, lT, l0, lS]
            refine sk 10 rfl (by kernel_rfl) (fun _ _ _ h => h) (by rfl) ?_
            try simp only [Act.put, lT, l0, lS]
            refine sk 11 rfl (by kernel_rfl) (fun _ _ _ h => h) (by rfl) ?_
            try simp only [Act.put, lT, l0, lS]
            refine sk 12 rfl (by kernel_rfl) (fun _ _ _ h => h) (by rfl) ?_
            try simp only [Act.put, lT, l0, lS]
            refine sk 13 rfl (by kernel_rfl) (fun _ _ _ h => h) (by rfl) ?_
            try simp only [Act.put, lT, l0, lS]
            refine sk 14 rfl (by kernel_rfl) (fun _ _ _ h => h) (by rfl) ?_
            try simp only [Act.put, lT, l0, lS]
            refine sk 15 rfl (by kernel_rfl) (fun _ _ _ h => h) (by rfl) ?_
            try simp only [Act.put, lT, l0, lS]
            refine sk 16 rfl (by kernel_rfl) (fun _ _ _ h => h) (by rfl) ?_
            try simp only [Act.put, lT, l0, lS]
            try simp only [Act.put, lT, l0, lS]
            refine tk 17 (v := ?_) rfl (by kernel_rfl) (fun _ _ _ h => h) (by rfl) ?hy ?_
            case hy => intro w; go_simp; try with_reducible rfl
            try simp only [Act.put, lT, l0, lS]
            refine tk 18 (v := ?_) rfl (by kernel_rfl) (fun _ _ _ h => h) (by rfl) ?hy ?_
            case hy => intro w; go_simp; try with_reducible rfl
            try simp only [Act.put, lT, l0, lS]
            refine wpAny_done (by kernel_rfl) ?_ _
            go_wp2_with (fail)
            go_ret
            exact ⟨rfl, hfin⟩
          | false =>
            simp only [Bool.not_false, Bool.true_and]
            cases c5 : (off == (n : Int))
            all_goals
              go_wp2_with (fail)
              refine wp_region_any (by kernel_rfl) ?_
              change wpAny _ _ _ _ _ _ _ (World.drew _)
              try simp only [Act.put, lT, l0, lS]
              refine tk 0 (v := ?_) rfl (by kernel_rfl) (fun _ _ _ h => h) (by rfl) ?hy ?_
              case hy => intro w; go_simp; try with_reducible rfl
              try simp only [Act.put, lT, l0, lS]
              refine tk 1 (v := ?_) rfl (by kernel_rfl) (fun _ _ _ h => h) (by rfl) ?hy ?_
              case hy => intro w; go_simp; try with_reducible rfl
              try simp only [Act.put, lT, l0, lS]
              refine tk 2 (v := ?_) rfl (by kernel_rfl) (fun _ _ _ h => h) (by rfl) ?hy ?_
              case hy => intro w; go_simp; try with_reducible rfl
              try simp only [Act.put, lT, l0, lS]
              try simp only [Act.put, lT, l0, lS]
              refine tkR 3 (v := ?_) rfl (by kernel_rfl) (fun _ _ _ h => h) (by rfl) ?hy ?_
              case hy => intro w hE; have q0 := hE.cell r0; go_simp; try with_reducible rfl
              try simp only [Act.put, lT, l0, lS]
              try simp only [Act.put, lT, l0, lS]
              refine tk 4 (v := ?_) rfl (by kernel_rfl) (fun _ _ _ h => h) (by rfl) ?hy ?_
              case hy => intro w; go_simp; try with_reducible rfl
              try simp only [Act.put, lT, l0, lS]
              try simp only [Act.put, lT, l0, lS]
              refine tk 5 (v := ?_) rfl (by kernel_rfl) (fun _ _ _ h => h) (by rfl) ?hy ?_
              case hy => intro w; go_simp; try with_reducible rfl
              try simp only [Act.put, lT, l0, lS]
              refine tk 7 (v := ?_) rfl (by kernel_rfl) (fun _ _ _ h => h) (by rfl) ?hy ?_
              case hy => intro w; go_simp; try with_reducible rfl
              try simp only [Act.put, lT, l0, lS]
              refine tk 8 (v := ?_) rfl (by kernel_rfl) (fun _ _ _ h => h) (by rfl) ?hy ?_
              case hy => intro w; go_simp; try with_reducible rfl
              try simp only [Act.put, lT, l0, lS]
              refine tk 9 (v := ?_) rfl (by kernel_rfl) (fun _ _ _ h => h) (by rfl) ?hy ?_
              case hy => intro w; go_simp; try with_reducible rfl
              try simp only [Act.put, lT, l0, lS]
              try simp only [Act.put, lT, l0, lS]
              refine tkR 6 (v := ?_) rfl (by kernel_rfl) (fun _ _ _ h => h) (by rfl) ?hy ?_
              case hy => intro w hE; have q0 := hE.cell e1; go_simp; try with_reducible rfl
              try simp only [Act.put, lT, l0, lS]
              try simp only [Act.put, lT, l0, lS]
              refine tkR 10 (v := ?_) rfl (by kernel_rfl) (fun _ _ _ h => h) (by rfl) ?hy ?_
              case hy => intro w hE; have q0 := hE.cell r1; go_simp; try with_reducible rfl
              try simp only [Act.put, lT, l0, lS]
              try simp only [Act.put, lT, l0, lS]
              refine tk 11 (v := ?_) rfl (by kernel_rfl) (fun _ _ _ h => h) (by rfl) ?hy ?_
              case hy => intro w; go_simp; try with_reducible rfl
              try simp only [Act.put, lT, l0, lS]
              try simp only [c1]
              try simp only [Act.put, lT, l0, lS]
              refine tk 12 (v := ?_) rfl (by kernel_rfl) (fun _ _ _ h => h) (by rfl) ?hy ?_
              case hy => intro w; go_simp; try with_reducible rfl
              try simp only [Act.put, lT, l0, lS]
              refine tk 13 (v := ?_) rfl (by kernel_rfl) (fun _ _ _ h => h) (by rfl) ?hy ?_
              case hy => intro w; go_simp; try with_reducible rfl
              try simp only [Act.put, lT, l0, lS]
              try simp only [Act.put, lT, l0, lS]
              refine tk 14 (v := ?_) rfl (by kernel_rfl) (fun _ _ _ h => h) (by rfl) ?hy ?_
              case hy => intro w; go_simp; try with_reducible rfl
              try simp only [Act.put, lT, l0, lS]
              refine tk 16 (v := ?_) rfl (by kernel_rfl) (fun _ _ _ h => h) (by rfl) ?hy ?_
              case hy => intro w; go_simp; try with_reducible rfl
              try simp only [Act.put, lT, l0, lS]
              refine tk 17 (v := ?_) rfl (by kernel_rfl) (fun _ _ _ h => h) (by rfl) ?hy ?_
              case hy => intro w; go_simp; try with_reducible rfl
              try simp only [Act.put, lT, l0, lS]
              refine tk 18 (v := ?_) rfl (by kernel_rfl) (fun _ _ _ h => h) (by rfl) ?hy ?_
              case hy => intro w; go_simp; try with_reducible rfl
              try simp only [Act.put, lT, l0, lS]
              try simp only [Act.put, lT, l0, lS]
              refine tkR 15 (v := ?_) rfl (by kernel_rfl) (fun _ _ _ h => h) (by rfl) ?hy ?_
              case hy => intro w hE; have q0 := hE.cell e4; go_simp; try with_reducible rfl
              try simp only [Act.put, lT, l0, lS]
              try simp only [Act.put, lT, l0, lS]
              refine tkR 19 (v := ?_) rfl (by kernel_rfl) (fun _ _ _ h => h) (by rfl) ?hy ?_
              case hy => intro w hE; have q0 := hE.cell r2; go_simp; try with_reducible rfl
              try simp only [Act.put, lT, l0, lS]
              try simp only [Act.put, lT, l0, lS]
              refine tk 20 (v := ?_) rfl (by kernel_rfl) (fun _ _ _ h => h) (by rfl) ?hy ?_
              case hy => intro w; go_simp; try with_reducible rfl
              try simp only [Act.put, lT, l0, lS]
              try simp only [c2]
              try simp only [Act.put, lT, l0, lS]
              refine tk 21 (v := ?_) rfl (by kernel_rfl) (fun _ _ _ h => h) (by rfl) ?hy ?_
              case hy => intro w; go_simp; try with_reducible rfl
              try simp only [Act.put, lT, l0, lS]
              refine tk 22 (v := ?_) rfl (by kernel_rfl) (fun _ _ _ h => h) (by rfl) ?hy ?_
              case hy => intro w; go_simp; try with_reducible rfl
              try simp only [Act.put, lT, l0, lS]
              try simp only [Act.put, lT, l0, lS]
              refine tk 23 (v := ?_) rfl (by kernel_rfl) (fun _ _ _ h => h) (by rfl) ?hy ?_
              case hy => intro w; go_simp; try with_reducible rfl
              try simp only [Act.put, lT, l0, lS]
              refine tk 25 (v := ?_) rfl (by kernel_rfl) (fun _ _ _ h => h) (by rfl) ?hy ?_
              case hy => intro w; go_simp; try with_reducible rfl
              try simp only [Act.put, lT, l0, lS]
              refine tk 26 (v := ?_) rfl (by kernel_rfl) (fun _ _ _ h => h) (by rfl) ?hy ?_
              case hy => intro w; go_simp; try with_reducible rfl
              try simp only [Act.put, lT, l0, lS]
              refine tk 27 (v := ?_) rfl (by kernel_rfl) (fun _ _ _ h => h) (by rfl) ?hy ?_
              case hy => intro w; go_simp; try with_reducible rfl
              try simp only [Act.put, lT, l0, lS]
              try simp only [Act.put, lT, l0, lS]
              refine tkR 24 (v := ?_) rfl (by kernel_rfl) (fun _ _ _ h => h) (by rfl) ?hy ?_
              case hy => intro w hE; have q0 := hE.cell e5; go_simp; try with_reducible rfl
              try simp only [Act.put, lT, l0, lS]
              try simp only [Act.put, lT, l0, lS]
              refine tkR 28 (v := ?_) rfl (by kernel_rfl) (fun _ _ _ h => h) (by rfl) ?hy ?_
              case hy => intro w hE; have q0 := hE.cell r3; go_simp; try with_reducible rfl
              try simp only [Act.put, lT, l0, lS]
              try simp only [Act.put, lT, l0, lS]
              refine tk 29 (v := ?_) rfl (by kernel_rfl) (fun _ _ _ h => h) (by rfl) ?hy ?_
              case hy => intro w; go_simp; try with_reducible rfl
              try simp only [Act.put, lT, l0, lS]
              try simp only [c3]
              try simp only [Act.put, lT, l0, lS]
              refine tk 30 (v := ?_) rfl (by kernel_rfl) (fun _ _ _ h => h) (by rfl) ?hy ?_
              case hy => intro w; go_simp; try with_reducible rfl
              try simp only [Act.put, lT, l0, lS]
              refine tk 31 (v := ?_) rfl (by kernel_rfl) (fun _ _ _ h => h) (by rfl) ?hy ?_
              case hy => intro w; go_simp; try with_reducible rfl
              try simp only [Act.put, lT, l0, lS]
              refine wpAny_done (by kernel_rfl) ?_ _
              go_wp2_with (fail)
              refine wp_region_any (by kernel_rfl) ?_
              change wpAny _ _ _ _ _ _ _ (World.drew _)
              try simp only [Act.put, lT, l0, lS]
              refine tk 0 (v := ?_) rfl (by kernel_rfl) (fun _ _ _ h => h) (by rfl) ?hy ?_
              case hy => intro w; go_simp; try with_reducible rfl
              try simp only [Act.put, lT, l0, lS]
              refine tk 1 (v := ?_) rfl (by kernel_rfl) (fun _ _ _ h => h) (by rfl) ?hy ?_
              case hy => intro w; go_simp; try with_reducible rfl
              try simp only [Act.put, lT, l0, lS]
              try simp only [Act.put, lT, l0, lS]
              refine tk 2 (v := ?_) rfl (by kernel_rfl) (fun _ _ _ h => h) (by rfl) ?hy ?_
              case hy => intro w; go_simp; try with_reducible rfl
              try simp only [Act.put, lT, l0, lS]
              refine tk 3 (v := ?_) rfl (by kernel_rfl) (fun _ _ _ h => h) (by rfl) ?hy ?_
              case hy => intro w; go_simp; try with_reducible rfl
              try simp only [Act.put, lT, l0, lS]
              refine tk 4 (v := ?_) rfl (by kernel_rfl) (fun _ _ _ h => h) (by rfl) ?hy ?_
              case hy => intro w; go_simp; try with_reducible rfl
              try simp only [Act.put, lT, l0, lS]
              try simp only [Act.put, lT, l0, lS]
              refine tkR 5 (v := ?_) rfl (by kernel_rfl) (fun _ _ _ h => h) (by rfl) ?hy ?_
              case hy => intro w hE; have q0 := hE.cell r5; go_simp; try with_reducible rfl
              try simp only [Act.put, lT, l0, lS]
              try simp only [Act.put, lT, l0, lS]
              refine tk 6 (v := ?_) rfl (by kernel_rfl) (fun _ _ _ h => h) (by rfl) ?hy ?_
              case hy => intro w; go_simp; try with_reducible rfl
              try simp only [Act.put, lT, l0, lS]
              refine tk 7 (v := ?_) rfl (by kernel_rfl) (fun _ _ _ h => h) (by rfl) ?hy ?_
              case hy => intro w; go_simp; try with_reducible rfl
              try simp only [Act.put, lT, l0, lS]
              refine tk 8 (v := ?_) rfl (by kernel_rfl) (fun _ _ _ h => h) (by rfl) ?hy ?_
              case hy => intro w; go_simp; try with_reducible rfl
              try simp only [Act.put, lT, l0, lS]
              try simp only [Act.put, lT, l0, lS]
              refine tk 9 (v := ?_) rfl (by kernel_rfl) (fun _ _ _ h => h) (by rfl) ?hy ?_
              case hy => intro w; go_simp; try with_reducible rfl
              try simp only [Act.put, lT, l0, lS]
              refine tk 11 (v := ?_) rfl (by kernel_rfl) (fun _ _ _ h => h) (by rfl) ?hy ?_
              case hy => intro w; go_simp; try with_reducible rfl
              try simp only [Act.put, lT, l0, lS]
              refine tk 12 (v := ?_) rfl (by kernel_rfl) (fun _ _ _ h => h) (by rfl) ?hy ?_
              case hy => intro w; go_simp; try with_reducible rfl
              try simp only [Act.put, lT, l0, lS]
              refine tk 13 (v := ?_) rfl (by kernel_rfl) (fun _ _ _ h => h) (by rfl) ?hy ?_
              case hy => intro w; go_simp; try with_reducible rfl
              try simp only [Act.put, lT, l0, lS]
              try simp only [Act.put, lT, l0, lS]
              refine tkR 10 (v := ?_) rfl (by kernel_rfl) (fun _ _ _ h => h) (by rfl) ?hy ?_
              case hy => intro w hE; have q0 := hE.cell e12; go_simp; try with_reducible rfl
              try simp only [Act.put, lT, l0, lS]
              try simp only [Act.put, lT, l0, lS]
              refine tkR 14 (v := ?_) rfl (by kernel_rfl) (fun _ _ _ h => h) (by rfl) ?hy ?_
              case hy => intro w hE; have q0 := hE.cell r7; go_simp; try with_reducible rfl
              try simp only [Act.put, lT, l0, lS]
              try simp only [Act.put, lT, l0, lS]
              refine tk 15 (v := ?_) rfl (by kernel_rfl) (fun _ _ _ h => h) (by rfl) ?hy ?_
              case hy => intro w; go_simp; try with_reducible rfl
              try simp only [Act.put, lT, l0, lS]
              refine tk 16 (v := ?_) rfl (by kernel_rfl) (fun _ _ _ h => h) (by rfl) ?hy ?_
              case hy => intro w; go_simp; try with_reducible rfl
              try simp only [Act.put, lT, l0, lS]
              try simp only [c5]
              try simp only [Act.put, lT, l0, lS]
              refine tk 17 (v := ?_) rfl (by kernel_rfl) (fun _ _ _ h => h) (by rfl) ?hy ?_
              case hy => intro w; go_simp; try with_reducible rfl
              try simp only [Act.put, lT, l0, lS]
              refine tk 18 (v := ?_) rfl (by kernel_rfl) (fun _ _ _ h => h) (by rfl) ?hy ?_
              case hy => intro w; go_simp; try with_reducible rfl
              try simp only [Act.put, lT, l0, lS]
              refine wpAny_done (by kernel_rfl) ?_ _
              go_wp2_with (fail)
              go_ret
              exact ⟨rfl, hfin⟩
end Go.Ev
