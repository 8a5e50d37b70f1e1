/-
  The document's receiver takes a message, whatever it is.
-/
import Derived.Test.YthfdbfbfldmmaaaGreatDoorMGvAppendE
import Derived.Test.YthfdbfbfldmmaaaGreatDoorMGwBookO
set_option linter.unusedVariables false
set_option linter.unusedSimpArgs false
set_option linter.unusedVariables false
set_option linter.unusedSimpArgs false
namespace Go.Ev
open Go.Proofs Go.RowKit
def rfCs (bg : Bool) (fr ix tm : Int) (mem : Value) (pv : Value) (done : Bool) : Array Value := #[.bool bg, .int .i64 fr, .int .i64 ix, .int .i64 tm, mem, pv, .bool done]
structure RfIs (W : World) (B b : Nat) (s : RcM) (mem pv : Value) : Prop where
  blk : Blk W b 30 (rfCs s.bg s.fr s.ix s.tm mem pv s.done)
  row : W.ownsRow B 59 2 pv s.n s.xs
  low : B ≤ b
  far : pv.ownBlock ≠ some b
theorem RfIs.below {W W' : World} {B b : Nat} {s : RcM} {mem pv : Value} (h : RfIs W B b s mem pv) (hb : Below W.heap.size W W') : RfIs W' B b s mem pv :=
  ⟨h.blk.below' hb, own_keeps (S := fun _ => False) h.row (Keeps.of_below hb) (fun _ _ h => h), h.low, h.far⟩
theorem own_low {w : World} {B B2 : Nat} {e : TypeId} {z : Nat} {v : Value} {n : Nat} {xs : List Value} (h : w.ownsRow B e z v n xs) (hB : B2 ≤ B) : w.ownsRow B2 e z v n xs :=
  ⟨h.1, h.2.imp id fun ⟨g, cap, cur, e, hb, r⟩ => ⟨g, cap, cur, e, Nat.le_trans hB hb, r⟩⟩
theorem own_ge {w : World} {B : Nat} {e : TypeId} {z : Nat} {v : Value} {n : Nat} {xs : List Value} (h : w.ownsRow B e z v n xs) : ∀ k, v.ownBlock = some k → B ≤ k := fun k e2 => by
  rcases h.2 with ⟨e3, _⟩ | ⟨g, cap, cur, e3, hb, _⟩
  · rw [e3] at e2; cases e2
  · rw [e3] at e2
    have e2 : g = k := by simpa [Value.ownBlock] using e2
    omega
theorem own_none0 {w : World} {B : Nat} {e : TypeId} {z n c : Nat} {A : Option Addr} {xs : List Value} (h : w.ownsRow B e z (.slice A n c) n xs) : A = none → c = 0 := by
  rintro rfl
  rcases h.2 with ⟨e, _⟩ | ⟨_, _, _, e, _⟩
  · cases e; rfl
  · cases e
theorem wpAnyH_last {P : Program} {ops : Array Oper} {Q : Exit → Act → World → Prop} {md : Region.Mode} {S : World → Prop} {fuel : Nat} {listed : Array Bool} {a : Act} {w : World} {K : Act → World → Prop} (hK : ∀ a w, S w → wpAnyH P md ops Q S fuel listed a w → K a w) (hS : S w) (hr : Region.ready md ops listed = []) (h : Q .normal a w) : K a w :=
  hK _ _ hS (wpAnyH_done hr h _)
theorem infoZ1 : (Tryz.prog.info? 3).map (fun i => (i.zero, i.size, i.bytes)) = some (some (.int .i64 0), 1, 8) := by kernel_rfl
def RefTakeP (B b : Nat) (pv : Value) (s : RcM) (w : World) (e : Ending) (w' : World) : Prop :=
  e = .returned (.tuple #[.int .i64 s.n, .bool s.done]) ∧ Keeps (fun k => k = b) w w' ∧ ∃ mem' pv', RfIs w' B b s mem' pv' ∧ (∀ k, pv'.ownBlock = some k → pv.ownBlock = some k ∨ w.heap.size ≤ k)
set_option maxHeartbeats 16000000 in
set_option maxRecDepth 100000 in
theorem refTake_ok (B b : Nat) (s : RcM) (mem pv : Value) (m : MsgV) (A A2 : Option Addr) (k c k2 c2 : Nat) (qs zs : List Value) (w : World) (h : RfIs w B b s mem pv) (hB : B ≤ w.heap.size) (hp : m.pairs = .slice A k c) (hz : m.mems = .slice A2 k2 c2) (hn : s.n ≤ 100000) (hk : k ≤ 100000) (hk2 : k2 ≤ 100000) (h1x : ∀ u ∈ s.xs, u.oneCell' = true) (h1q : ∀ u ∈ qs, u.oneCell' = true) (h1z : ∀ u ∈ zs, u.oneCell' = true)
    (hq : Sl w 2 (.slice A k c) k qs) (hA : A = none → c = 0) (hzs : Sl w 1 (.slice A2 k2 c2) k2 zs) (hA2 : A2 = none → c2 = 0) :
    Calls Tryz.prog 9 #[.pointer (some ⟨b, 0, none⟩), .agg m.cs] w (RefTakeP B b pv (s.take m k qs) w) := by
  have hlt := h.blk.lt
  have hvs : m.cs = #[.int .i64 m.kind, .int .i64 m.fr, m.dst, m.term, .int .i64 m.ix, .int .i64 m.tm, m.commit, m.round, m.ok, .bool m.done, m.ents, .slice A2 k2 c2, .int .i64 m.off, .slice A k c] := by rw [← hp, ← hz]; rfl
  rw [hvs]
  obtain ⟨A0, c0', hpv, -⟩ := Sl.of_own h.row
  subst hpv
  have H := Lib.hid h
  have r0 : w.cell? ⟨b, 0, none⟩ = some (.bool s.bg) := h.blk.cell 0
  have r5 : w.cell? ⟨b, 5, none⟩ = some (.slice A0 s.n c0') := h.blk.cell 5
  have r6 : w.cell? ⟨b, 6, none⟩ = some (.bool s.done) := h.blk.cell 6
  have HX := Lib.hid h1x
  have HX := HX.out
  clear h1x
  have HB := Lib.hid (And.intro hB (And.intro hn (And.intro hk (And.intro hk2 (And.intro h1q h1z)))))
  have HQ := Lib.hid (And.intro hq (And.intro hA (And.intro hzs hA2)))
  clear h hB hn hk hk2 h1q h1z hq hA hzs hA2 hvs
  cases hk5 : (m.kind == 5) with
  | false =>
    have hR : s.take m k qs = s := by simp [RcM.take, hk5]
    have hk5' : (m.kind != 5) = true := by simp [bne, hk5]
    go_enter Tryz.func9, Tryz.ntmps9
    go_wp2_with (fail)
    go_region
    go_wp2_with (fail)
    go_ret2
    rw [hR]
    exact ⟨rfl, ((Keeps.refl _ w).alloc _).drew, _, _, H.out.below (((Below.refl _ w).alloc (Nat.le_refl _) _).drew), fun k e => .inl e⟩
  | true =>
    have hk5' : (m.kind != 5) = false := by simp [bne, hk5]
    cases h0 : (m.off == 0) with
    | true =>
      have hR : s.take m k qs = ⟨true, m.fr, m.ix, m.tm, m.done, k, qs⟩ := by simp [RcM.take, hk5, h0]
      go_enter Tryz.func9, Tryz.ntmps9
      go_wp2_with (fail)
      obtain ⟨S, hS⟩ : ∃ S : World → Prop, S = fun W => W.cell? ⟨w.heap.size, 1, none⟩ = some (.int .i64 m.fr) ∧ W.cell? ⟨w.heap.size, 4, none⟩ = some (.int .i64 m.ix) ∧ W.cell? ⟨w.heap.size, 5, none⟩ = some (.int .i64 m.tm) ∧ W.cell? ⟨w.heap.size, 9, none⟩ = some (.bool m.done) ∧ W.cell? ⟨w.heap.size, 11, none⟩ = some (.slice A2 k2 c2) ∧ W.cell? ⟨w.heap.size, 13, none⟩ = some (.slice A k c) := ⟨_, rfl⟩
      have hbx : Blk (w.alloc (.cells #[.int .i64 m.kind, .int .i64 m.fr, m.dst, m.term, .int .i64 m.ix, .int .i64 m.tm, m.commit, m.round, m.ok, .bool m.done, m.ents, .slice A2 k2 c2, .int .i64 m.off, .slice A k c] 51)) w.heap.size 51 #[.int .i64 m.kind, .int .i64 m.fr, m.dst, m.term, .int .i64 m.ix, .int .i64 m.tm, m.commit, m.round, m.ok, .bool m.done, m.ents, .slice A2 k2 c2, .int .i64 m.off, .slice A k c] := Blk.new _ _ _
      have hSB : ∀ W, Blk W w.heap.size 51 #[.int .i64 m.kind, .int .i64 m.fr, m.dst, m.term, .int .i64 m.ix, .int .i64 m.tm, m.commit, m.round, m.ok, .bool m.done, m.ents, .slice A2 k2 c2, .int .i64 m.off, .slice A k c] → S W := fun W hb => by
        rw [hS]
        exact ⟨hb.cell 1, hb.cell 4, hb.cell 5, hb.cell 9, hb.cell 11, hb.cell 13⟩
      have HSB := Lib.hid hSB
      have HSe := Lib.hid hS
      have HS := hSB _ hbx.drew
      clear hSB hS
      refine wp_region_held (S := S) (by kernel_rfl) ?_
      change wpAnyH _ _ _ _ _ _ _ _ (World.drew _)
      try simp only [Act.put, lT, l0, lS]
      refine tkH 0 (v := ?_) rfl (by kernel_rfl) (fun _ _ _ h => h) (by rfl) HS ?hy ?_
      case hy => intro w hE; rw [HSe.out] at hE; go_simp; try with_reducible rfl
      try simp only [Act.put, lT, l0, lS]
      refine tkH 1 (v := ?_) rfl (by kernel_rfl) (fun _ _ _ h => h) (by rfl) HS ?hy ?_
      case hy => intro w hE; rw [HSe.out] at hE; go_simp; try with_reducible rfl
      try simp only [Act.put, lT, l0, lS]
      refine tkH 2 (v := ?_) rfl (by kernel_rfl) (fun _ _ _ h => h) (by rfl) HS ?hy ?_
      case hy => intro w hE; rw [HSe.out] at hE; go_simp; try with_reducible rfl
      try simp only [Act.put, lT, l0, lS]
      refine tkH 3 (v := ?_) rfl (by kernel_rfl) (fun _ _ _ h => h) (by rfl) HS ?hy ?_
      case hy => intro w hE; rw [HSe.out] at hE; go_simp; try with_reducible rfl
      try simp only [Act.put, lT, l0, lS]
      refine tkH 4 (v := ?_) rfl (by kernel_rfl) (fun _ _ _ h => h) (by rfl) HS ?hy ?_
      case hy => intro w hE; rw [HSe.out] at hE; go_simp; try with_reducible rfl
      try simp only [Act.put, lT, l0, lS]
      refine tkH 5 (v := ?_) rfl (by kernel_rfl) (fun _ _ _ h => h) (by rfl) HS ?hy ?_
      case hy => intro w hE; rw [HSe.out] at hE; go_simp; try with_reducible rfl
      try simp only [Act.put, lT, l0, lS]
      refine tkH 6 (v := ?_) rfl (by kernel_rfl) (fun _ _ _ h => h) (by rfl) HS ?hy ?_
      case hy => intro w hE; rw [HSe.out] at hE; go_simp; try with_reducible rfl
      try simp only [Act.put, lT, l0, lS]
      refine tkH 7 (v := ?_) rfl (by kernel_rfl) (fun _ _ _ h => h) (by rfl) HS ?hy ?_
      case hy => intro w hE; rw [HSe.out] at hE; go_simp; try with_reducible rfl
      try simp only [Act.put, lT, l0, lS]
      refine tkH 8 (v := ?_) rfl (by kernel_rfl) (fun _ _ _ h => h) (by rfl) HS ?hy ?_
      case hy => intro w hE; rw [HSe.out] at hE; go_simp; try with_reducible rfl
      try simp only [Act.put, lT, l0, lS]
      refine tkH 10 (v := ?_) rfl (by kernel_rfl) (fun _ _ _ h => h) (by rfl) HS ?hy ?_
      case hy => intro w hE; rw [HSe.out] at hE; go_simp; try with_reducible rfl
      try simp only [Act.put, lT, l0, lS]
      refine tkH 11 (v := ?_) rfl (by kernel_rfl) (fun _ _ _ h => h) (by rfl) HS ?hy ?_
      case hy => intro w hE; rw [HSe.out] at hE; go_simp; try with_reducible rfl
      try simp only [Act.put, lT, l0, lS]
      refine tkH 13 (v := ?_) rfl (by kernel_rfl) (fun _ _ _ h => h) (by rfl) HS ?hy ?_
      case hy => intro w hE; rw [HSe.out] at hE; go_simp; try with_reducible rfl
      try simp only [Act.put, lT, l0, lS]
      refine tkH 14 (v := ?_) rfl (by kernel_rfl) (fun _ _ _ h => h) (by rfl) HS ?hy ?_
      case hy => intro w hE; rw [HSe.out] at hE; go_simp; try with_reducible rfl
      try simp only [Act.put, lT, l0, lS]
      obtain ⟨i0, hq0, hq1, hq2, hq3⟩ := info_parts infoPr
      obtain ⟨i1, hr0, hr1, hr2, hr3⟩ := info_parts infoZ1
      have hb0 : Below w.heap.size w (w.alloc (.cells #[.int .i64 m.kind, .int .i64 m.fr, m.dst, m.term, .int .i64 m.ix, .int .i64 m.tm, m.commit, m.round, m.ok, .bool m.done, m.ents, .slice A2 k2 c2, .int .i64 m.off, .slice A k c] 51)).drew := ((Below.refl _ w).alloc (Nat.le_refl _) _).drew
      have SLp : ∀ W, Below w.heap.size w W → Sl W 2 (.slice A k c) k qs := fun W hb => HQ.out.1.below hb
      have SLz : ∀ W, Below w.heap.size w W → Sl W 1 (.slice A2 k2 c2) k2 zs := fun W hb => HQ.out.2.2.1.below hb
      refine rdH 9 (by kernel_rfl) rfl (fun K hK => ?_)
      refine if_on rfl ?_
      refine wp_append_sl _ _ 27 rfl w.heap.size 3 i1 _ 1 8 Tryz.underlying27 hr0 hr1 hr2 hr3 rfl (by decide) (.slice none 0 0) 0 [] rfl (World.ownsRow_nil _ _ _ _) A2 k2 c2 zs rfl (SLz _ hb0) HQ.out.2.2.2 HB.out.2.2.2.2.2 (by have := HB.out.2.2.2.1; unfold maxLen; omega) (by have := HB.out.2.2.2.1; omega) hb0.size ?_
      intro v1 w1 own1 hg1
      obtain ⟨A8, c8, rfl, -⟩ := Sl.of_own own1
      have hb1 : Below (w.alloc (.cells #[.int .i64 m.kind, .int .i64 m.fr, m.dst, m.term, .int .i64 m.ix, .int .i64 m.tm, m.commit, m.round, m.ok, .bool m.done, m.ents, .slice A2 k2 c2, .int .i64 m.off, .slice A k c] 51)).drew.heap.size _ w1 := (Below.refl _ _).grown hg1 (Nat.le_refl _) (fun k hk => by cases hk)
      have hbw1 := bel_then hb0 hb1
      have HS := HSB.out _ (hbx.drew.below' hb1)
      have hbx1 := hbx.drew.below' hb1
      refine hK _ _ HS ?_
      clear hK K
      refine rdH 12 (by kernel_rfl) rfl (fun K hK => ?_)
      refine if_on rfl ?_
      refine wp_append_sl _ _ 28 rfl w.heap.size 59 i0 _ 2 32 Tryz.underlying28 hq0 hq1 hq2 hq3 rfl (by decide) (.slice none 0 0) 0 [] rfl (World.ownsRow_nil _ _ _ _) A k c qs rfl (SLp _ hbw1) HQ.out.2.1 HB.out.2.2.2.2.1 (by have := HB.out.2.2.1; unfold maxLen; omega) (by have := HB.out.2.2.1; omega) hbw1.size ?_
      intro v2 w2 own2 hg2
      obtain ⟨A9, c9, rfl, -⟩ := Sl.of_own own2
      have HO2 := Lib.hid own2
      clear own1 own2
      have hb2 : Below w1.heap.size w1 w2 := (Below.refl _ _).grown hg2 (Nat.le_refl _) (fun k hk => by cases hk)
      have hbw2 := bel_then hbw1 hb2
      have HS := HSB.out _ (hbx1.below' hb2)
      refine hK _ _ HS ?_
      clear hK K
      try simp only [Act.put, lT, l0, lS]
      refine tkH 15 (v := ?_) rfl (by kernel_rfl) (fun _ _ _ h => h) (by rfl) HS ?hy ?_
      case hy => intro w hE; rw [HSe.out] at hE; go_simp; try with_reducible rfl
      try simp only [Act.put, lT, l0, lS]
      refine tkH 16 (v := ?_) rfl (by kernel_rfl) (fun _ _ _ h => h) (by rfl) HS ?hy ?_
      case hy => intro w hE; rw [HSe.out] at hE; go_simp; try with_reducible rfl
      try simp only [Act.put, lT, l0, lS]
      have hb2w := H.out.blk.below' hbw2
      have f0 : w2.frozen? ⟨b, 0, none⟩ = false := hb2w.frozen 0
      have x0 : w2.cell? ⟨b, 0, none⟩ = some (.bool s.bg) := hb2w.cell 0
      have f1 : w2.frozen? ⟨b, 1, none⟩ = false := hb2w.frozen 1
      have x1 : w2.cell? ⟨b, 1, none⟩ = some (.int .i64 s.fr) := hb2w.cell 1
      have f2 : w2.frozen? ⟨b, 2, none⟩ = false := hb2w.frozen 2
      have x2 : w2.cell? ⟨b, 2, none⟩ = some (.int .i64 s.ix) := hb2w.cell 2
      have f3 : w2.frozen? ⟨b, 3, none⟩ = false := hb2w.frozen 3
      have x3 : w2.cell? ⟨b, 3, none⟩ = some (.int .i64 s.tm) := hb2w.cell 3
      have f4 : w2.frozen? ⟨b, 4, none⟩ = false := hb2w.frozen 4
      have x4 : w2.cell? ⟨b, 4, none⟩ = some (mem) := hb2w.cell 4
      have f5 : w2.frozen? ⟨b, 5, none⟩ = false := hb2w.frozen 5
      have x5 : w2.cell? ⟨b, 5, none⟩ = some (.slice A0 s.n c0') := hb2w.cell 5
      have f6 : w2.frozen? ⟨b, 6, none⟩ = false := hb2w.frozen 6
      have x6 : w2.cell? ⟨b, 6, none⟩ = some (.bool s.done) := hb2w.cell 6
      have hlt2 := hb2w.lt
      have hbx2 := hbx1.below' hb2
      have hne : w.heap.size ≠ b := by omega
      have FACTS : ∀ w3, (((((((w2.setCell ⟨b, 0, none⟩ (.bool true)).setCell ⟨b, 1, none⟩ (.int .i64 m.fr)).setCell ⟨b, 2, none⟩ (.int .i64 m.ix)).setCell ⟨b, 3, none⟩ (.int .i64 m.tm)).setCell ⟨b, 4, none⟩ (.slice A8 k2 c8)).setCell ⟨b, 5, none⟩ (.slice A9 k c9)).setCell ⟨b, 6, none⟩ (.bool m.done)) = w3 → Blk w3 b 30 (rfCs true m.fr m.ix m.tm (.slice A8 k2 c8) (.slice A9 k c9) m.done) ∧ S w3 ∧ Keeps (fun k => k = b) w w3 ∧ Keeps (fun k => k = b) w2 w3 := by
        rintro _ rfl
        exact ⟨(((((((hb2w.set 0 (.bool true)).set 1 (.int .i64 m.fr)).set 2 (.int .i64 m.ix)).set 3 (.int .i64 m.tm)).set 4 (.slice A8 k2 c8)).set 5 (.slice A9 k c9)).set 6 (.bool m.done)), HSB.out _ ((((((((hbx2.far (p := ⟨b, 0, none⟩) hne (.bool true)).far (p := ⟨b, 1, none⟩) hne (.int .i64 m.fr)).far (p := ⟨b, 2, none⟩) hne (.int .i64 m.ix)).far (p := ⟨b, 3, none⟩) hne (.int .i64 m.tm)).far (p := ⟨b, 4, none⟩) hne (.slice A8 k2 c8)).far (p := ⟨b, 5, none⟩) hne (.slice A9 k c9)).far (p := ⟨b, 6, none⟩) hne (.bool m.done))), ((((((((Keeps.of_below (S := fun k => k = b) hbw2).setCell (p := ⟨b, 0, none⟩) (fun _ => rfl) (.bool true)).setCell (p := ⟨b, 1, none⟩) (fun _ => rfl) (.int .i64 m.fr)).setCell (p := ⟨b, 2, none⟩) (fun _ => rfl) (.int .i64 m.ix)).setCell (p := ⟨b, 3, none⟩) (fun _ => rfl) (.int .i64 m.tm)).setCell (p := ⟨b, 4, none⟩) (fun _ => rfl) (.slice A8 k2 c8)).setCell (p := ⟨b, 5, none⟩) (fun _ => rfl) (.slice A9 k c9)).setCell (p := ⟨b, 6, none⟩) (fun _ => rfl) (.bool m.done)), ((((((((Keeps.refl (fun k => k = b) w2).setCell (p := ⟨b, 0, none⟩) (fun _ => rfl) (.bool true)).setCell (p := ⟨b, 1, none⟩) (fun _ => rfl) (.int .i64 m.fr)).setCell (p := ⟨b, 2, none⟩) (fun _ => rfl) (.int .i64 m.ix)).setCell (p := ⟨b, 3, none⟩) (fun _ => rfl) (.int .i64 m.tm)).setCell (p := ⟨b, 4, none⟩) (fun _ => rfl) (.slice A8 k2 c8)).setCell (p := ⟨b, 5, none⟩) (fun _ => rfl) (.slice A9 k c9)).setCell (p := ⟨b, 6, none⟩) (fun _ => rfl) (.bool m.done))⟩
      have HF := Lib.hid FACTS
      clear FACTS
      refine rdH 17 (by kernel_rfl) rfl (fun K hK => ?_)
      go_simp
      generalize hw3 : (((((((w2.setCell ⟨b, 0, none⟩ (.bool true)).setCell ⟨b, 1, none⟩ (.int .i64 m.fr)).setCell ⟨b, 2, none⟩ (.int .i64 m.ix)).setCell ⟨b, 3, none⟩ (.int .i64 m.tm)).setCell ⟨b, 4, none⟩ (.slice A8 k2 c8)).setCell ⟨b, 5, none⟩ (.slice A9 k c9)).setCell ⟨b, 6, none⟩ (.bool m.done)) = w3
      obtain ⟨hblk3, HS, hkw, hkb⟩ := HF.out _ hw3
      clear hw3 HF
      refine hK _ _ HS ?_
      clear hK K
      refine wpAnyH_done (by kernel_rfl) ?_ _
      have r5 := hblk3.cell 5
      have r6 := hblk3.cell 6
      simp only [rfCs, List.getElem?_toArray, List.getElem?_cons_succ, List.getElem?_cons_zero] at r5 r6
      have HB3 := Lib.hid hblk3
      clear hblk3
      go_wp2_with (fail)
      go_region
      go_wp2_with (fail)
      go_ret2
      rw [hR]
      have ho := HO2.out
      rw [Nat.zero_add, List.nil_append] at ho
      exact ⟨rfl, hkw.drew, .slice A8 k2 c8, .slice A9 k c9, ⟨HB3.out.drew, own_low (own_keeps (S := fun k => k = b) ho hkb.drew (fun k e e2 => by have := own_ge ho k e; omega)) HB.out.1, H.out.low, fun e => by have := own_ge ho b e; omega⟩, fun k e => .inr (own_ge ho k e)⟩
    | false =>
      cases cq0 : s.bg
      case' false =>
        have hR : s.take m k qs = s := by simp [RcM.take, RcM.fits, hk5, h0, cq0]
        go_enter Tryz.func9, Tryz.ntmps9
        go_wp2_with (fail)
        obtain ⟨S, hS⟩ : ∃ S : World → Prop, S = fun W => (W.cell? ⟨w.heap.size, 1, none⟩ = some (.int .i64 m.fr) ∧ W.cell? ⟨w.heap.size, 4, none⟩ = some (.int .i64 m.ix) ∧ W.cell? ⟨w.heap.size, 5, none⟩ = some (.int .i64 m.tm) ∧ W.cell? ⟨w.heap.size, 12, none⟩ = some (.int .i64 m.off) ∧ W.cell? ⟨w.heap.size, 13, none⟩ = some (.slice A k c)) ∧ (W.cell? ⟨b, 0, none⟩ = some (.bool s.bg) ∧ W.cell? ⟨b, 1, none⟩ = some (.int .i64 s.fr) ∧ W.cell? ⟨b, 2, none⟩ = some (.int .i64 s.ix) ∧ W.cell? ⟨b, 3, none⟩ = some (.int .i64 s.tm) ∧ W.cell? ⟨b, 5, none⟩ = some (.slice A0 s.n c0') ∧ W.cell? ⟨b, 6, none⟩ = some (.bool s.done)) := ⟨_, rfl⟩
        have hbx : Blk (w.alloc (.cells #[.int .i64 m.kind, .int .i64 m.fr, m.dst, m.term, .int .i64 m.ix, .int .i64 m.tm, m.commit, m.round, m.ok, .bool m.done, m.ents, .slice A2 k2 c2, .int .i64 m.off, .slice A k c] 51)) w.heap.size 51 #[.int .i64 m.kind, .int .i64 m.fr, m.dst, m.term, .int .i64 m.ix, .int .i64 m.tm, m.commit, m.round, m.ok, .bool m.done, m.ents, .slice A2 k2 c2, .int .i64 m.off, .slice A k c] := Blk.new _ _ _
        have hbb := H.out.blk.alloc (.cells #[.int .i64 m.kind, .int .i64 m.fr, m.dst, m.term, .int .i64 m.ix, .int .i64 m.tm, m.commit, m.round, m.ok, .bool m.done, m.ents, .slice A2 k2 c2, .int .i64 m.off, .slice A k c] 51)
        have hSB : ∀ W, Blk W w.heap.size 51 #[.int .i64 m.kind, .int .i64 m.fr, m.dst, m.term, .int .i64 m.ix, .int .i64 m.tm, m.commit, m.round, m.ok, .bool m.done, m.ents, .slice A2 k2 c2, .int .i64 m.off, .slice A k c] → Blk W b 30 (rfCs s.bg s.fr s.ix s.tm mem (.slice A0 s.n c0') s.done) → S W := fun W hb hb2 => by
          rw [hS]
          exact ⟨⟨hb.cell 1, hb.cell 4, hb.cell 5, hb.cell 12, hb.cell 13⟩, ⟨hb2.cell 0, hb2.cell 1, hb2.cell 2, hb2.cell 3, hb2.cell 5, hb2.cell 6⟩⟩
        have HSB := Lib.hid hSB
        have HSe := Lib.hid hS
        have HS := hSB _ hbx.drew hbb.drew
        have HS0 := HSe.out ▸ HS
        clear hSB hS
        refine wp_region_held (S := S) (by kernel_rfl) ?_
        change wpAnyH _ _ _ _ _ _ _ _ (World.drew _)
        try simp only [Act.put, lT, l0, lS]
        refine tkH 0 (v := ?_) rfl (by kernel_rfl) (fun _ _ _ h => h) (by rfl) HS ?hy ?_
        case hy => intro w hE; rw [HSe.out] at hE; go_simp; try with_reducible rfl
        try simp only [Act.put, lT, l0, lS]
        refine tkH 1 (v := ?_) rfl (by kernel_rfl) (fun _ _ _ h => h) (by rfl) HS ?hy ?_
        case hy => intro w hE; rw [HSe.out] at hE; go_simp; try with_reducible rfl
        try simp only [Act.put, lT, l0, lS]
        refine tkH 2 (v := ?_) rfl (by kernel_rfl) (fun _ _ _ h => h) (by rfl) HS ?hy ?_
        case hy => intro w hE; rw [HSe.out] at hE; go_simp; try with_reducible rfl
        try simp only [Act.put, lT, l0, lS]
        refine tkH 3 (v := ?_) rfl (by kernel_rfl) (fun _ _ _ h => h) (by rfl) HS ?hy ?_
        case hy => intro w hE; rw [HSe.out] at hE; go_simp; try with_reducible rfl
        try simp only [Act.put, lT, l0, lS]
        refine tkH 4 (v := ?_) rfl (by kernel_rfl) (fun _ _ _ h => h) (by rfl) HS ?hy ?_
        case hy => intro w hE; rw [HSe.out] at hE; go_simp; try with_reducible rfl
        try simp only [Act.put, lT, l0, lS]
        try simp only [Act.put, lT, l0, lS]
        refine skH 5 rfl (by kernel_rfl) (fun _ _ _ h => h) (by rfl) HS ?_
        try simp only [Act.put, lT, l0, lS]
        refine skH 6 rfl (by kernel_rfl) (fun _ _ _ h => h) (by rfl) HS ?_
        try simp only [Act.put, lT, l0, lS]
        refine skH 7 rfl (by kernel_rfl) (fun _ _ _ h => h) (by rfl) HS ?_
        try simp only [Act.put, lT, l0, lS]
        refine skH 8 rfl (by kernel_rfl) (fun _ _ _ h => h) (by rfl) HS ?_
        try simp only [Act.put, lT, l0, lS]
        refine skH 9 rfl (by kernel_rfl) (fun _ _ _ h => h) (by rfl) HS ?_
        try simp only [Act.put, lT, l0, lS]
        refine skH 10 rfl (by kernel_rfl) (fun _ _ _ h => h) (by rfl) HS ?_
        try simp only [Act.put, lT, l0, lS]
        refine skH 11 rfl (by kernel_rfl) (fun _ _ _ h => h) (by rfl) HS ?_
        try simp only [Act.put, lT, l0, lS]
        try simp only [Act.put, lT, l0, lS]
        refine tkH 12 (v := ?_) rfl (by kernel_rfl) (fun _ _ _ h => h) (by rfl) HS ?hy ?_
        case hy => intro w hE; rw [HSe.out] at hE; go_simp; try with_reducible rfl
        try simp only [Act.put, lT, l0, lS]
        refine tkH 13 (v := ?_) rfl (by kernel_rfl) (fun _ _ _ h => h) (by rfl) HS ?hy ?_
        case hy => intro w hE; rw [HSe.out] at hE; go_simp; try with_reducible rfl
        try simp only [Act.put, lT, l0, lS]
        try simp only [Act.put, lT, l0, lS]
        refine skH 14 rfl (by kernel_rfl) (fun _ _ _ h => h) (by rfl) HS ?_
        try simp only [Act.put, lT, l0, lS]
        refine skH 15 rfl (by kernel_rfl) (fun _ _ _ h => h) (by rfl) HS ?_
        try simp only [Act.put, lT, l0, lS]
        refine skH 16 rfl (by kernel_rfl) (fun _ _ _ h => h) (by rfl) HS ?_
        try simp only [Act.put, lT, l0, lS]
        refine skH 17 rfl (by kernel_rfl) (fun _ _ _ h => h) (by rfl) HS ?_
        try simp only [Act.put, lT, l0, lS]
        refine skH 18 rfl (by kernel_rfl) (fun _ _ _ h => h) (by rfl) HS ?_
        try simp only [Act.put, lT, l0, lS]
        refine skH 19 rfl (by kernel_rfl) (fun _ _ _ h => h) (by rfl) HS ?_
        try simp only [Act.put, lT, l0, lS]
        refine skH 20 rfl (by kernel_rfl) (fun _ _ _ h => h) (by rfl) HS ?_
        try simp only [Act.put, lT, l0, lS]
        try simp only [Act.put, lT, l0, lS]
        refine tkH 21 (v := ?_) rfl (by kernel_rfl) (fun _ _ _ h => h) (by rfl) HS ?hy ?_
        case hy => intro w hE; rw [HSe.out] at hE; go_simp; try with_reducible rfl
        try simp only [Act.put, lT, l0, lS]
        refine tkH 22 (v := ?_) rfl (by kernel_rfl) (fun _ _ _ h => h) (by rfl) HS ?hy ?_
        case hy => intro w hE; rw [HSe.out] at hE; go_simp; try with_reducible rfl
        try simp only [Act.put, lT, l0, lS]
        try simp only [Act.put, lT, l0, lS]
        refine skH 23 rfl (by kernel_rfl) (fun _ _ _ h => h) (by rfl) HS ?_
        try simp only [Act.put, lT, l0, lS]
        refine skH 24 rfl (by kernel_rfl) (fun _ _ _ h => h) (by rfl) HS ?_
        try simp only [Act.put, lT, l0, lS]
        refine skH 25 rfl (by kernel_rfl) (fun _ _ _ h => h) (by rfl) HS ?_
        try simp only [Act.put, lT, l0, lS]
        refine skH 26 rfl (by kernel_rfl) (fun _ _ _ h => h) (by rfl) HS ?_
        try simp only [Act.put, lT, l0, lS]
        refine skH 27 rfl (by kernel_rfl) (fun _ _ _ h => h) (by rfl) HS ?_
        try simp only [Act.put, lT, l0, lS]
        refine skH 28 rfl (by kernel_rfl) (fun _ _ _ h => h) (by rfl) HS ?_
        try simp only [Act.put, lT, l0, lS]
        refine skH 29 rfl (by kernel_rfl) (fun _ _ _ h => h) (by rfl) HS ?_
        try simp only [Act.put, lT, l0, lS]
        try simp only [Act.put, lT, l0, lS]
        refine tkH 30 (v := ?_) rfl (by kernel_rfl) (fun _ _ _ h => h) (by rfl) HS ?hy ?_
        case hy => intro w hE; rw [HSe.out] at hE; go_simp; try with_reducible rfl
        try simp only [Act.put, lT, l0, lS]
        refine tkH 31 (v := ?_) rfl (by kernel_rfl) (fun _ _ _ h => h) (by rfl) HS ?hy ?_
        case hy => intro w hE; rw [HSe.out] at hE; go_simp; try with_reducible rfl
        try simp only [Act.put, lT, l0, lS]
        try simp only [Act.put, lT, l0, lS]
        refine skH 32 rfl (by kernel_rfl) (fun _ _ _ h => h) (by rfl) HS ?_
        try simp only [Act.put, lT, l0, lS]
        refine skH 33 rfl (by kernel_rfl) (fun _ _ _ h => h) (by rfl) HS ?_
        try simp only [Act.put, lT, l0, lS]
        refine skH 34 rfl (by kernel_rfl) (fun _ _ _ h => h) (by rfl) HS ?_
        try simp only [Act.put, lT, l0, lS]
        refine skH 35 rfl (by kernel_rfl) (fun _ _ _ h => h) (by rfl) HS ?_
        try simp only [Act.put, lT, l0, lS]
        refine skH 36 rfl (by kernel_rfl) (fun _ _ _ h => h) (by rfl) HS ?_
        try simp only [Act.put, lT, l0, lS]
        try simp only [Act.put, lT, l0, lS]
        refine tkH 37 (v := ?_) rfl (by kernel_rfl) (fun _ _ _ h => h) (by rfl) HS ?hy ?_
        case hy => intro w hE; rw [HSe.out] at hE; go_simp; try with_reducible rfl
        try simp only [Act.put, lT, l0, lS]
        refine tkH 38 (v := ?_) rfl (by kernel_rfl) (fun _ _ _ h => h) (by rfl) HS ?hy ?_
        case hy => intro w hE; rw [HSe.out] at hE; go_simp; try with_reducible rfl
        try simp only [Act.put, lT, l0, lS]
        try simp only [Act.put, lT, l0, lS]
        refine skH 39 rfl (by kernel_rfl) (fun _ _ _ h => h) (by rfl) HS ?_
        try simp only [Act.put, lT, l0, lS]
        refine skH 40 rfl (by kernel_rfl) (fun _ _ _ h => h) (by rfl) HS ?_
        try simp only [Act.put, lT, l0, lS]
        refine skH 41 rfl (by kernel_rfl) (fun _ _ _ h => h) (by rfl) HS ?_
        try simp only [Act.put, lT, l0, lS]
        refine skH 42 rfl (by kernel_rfl) (fun _ _ _ h => h) (by rfl) HS ?_
        try simp only [Act.put, lT, l0, lS]
        refine skH 43 rfl (by kernel_rfl) (fun _ _ _ h => h) (by rfl) HS ?_
        try simp only [Act.put, lT, l0, lS]
        refine skH 44 rfl (by kernel_rfl) (fun _ _ _ h => h) (by rfl) HS ?_
        try simp only [Act.put, lT, l0, lS]
        refine skH 45 rfl (by kernel_rfl) (fun _ _ _ h => h) (by rfl) HS ?_
        try simp only [Act.put, lT, l0, lS]
        refine skH 46 rfl (by kernel_rfl) (fun _ _ _ h => h) (by rfl) HS ?_
        try simp only [Act.put, lT, l0, lS]
        try simp only [Act.put, lT, l0, lS]
        refine tkH 47 (v := ?_) rfl (by kernel_rfl) (fun _ _ _ h => h) (by rfl) HS ?hy ?_
        case hy => intro w hE; rw [HSe.out] at hE; go_simp; try with_reducible rfl
        try simp only [Act.put, lT, l0, lS]
        refine wpAnyH_done (by kernel_rfl) ?_ _
        go_wp2_with (fail)
        go_region
        go_wp2_with (fail)
        go_ret2
        rw [hR]
        exact ⟨by first | rfl | (rw [e4]; rfl), (((Keeps.refl _ w).alloc _).drew).drew, _, _, H.out.below ((((Below.refl _ w).alloc (Nat.le_refl _) _).drew).drew), fun k e => .inl e⟩
      case' true =>
        cases e1 : (m.fr == s.fr)
        case' false =>
          have cq1 : (s.fr == m.fr) = false := by rw [Bool.beq_comm]; exact e1
          have hR : s.take m k qs = s := by simp [RcM.take, RcM.fits, hk5, h0, e1]
          go_enter Tryz.func9, Tryz.ntmps9
          go_wp2_with (fail)
          obtain ⟨S, hS⟩ : ∃ S : World → Prop, S = fun W => (W.cell? ⟨w.heap.size, 1, none⟩ = some (.int .i64 m.fr) ∧ W.cell? ⟨w.heap.size, 4, none⟩ = some (.int .i64 m.ix) ∧ W.cell? ⟨w.heap.size, 5, none⟩ = some (.int .i64 m.tm) ∧ W.cell? ⟨w.heap.size, 12, none⟩ = some (.int .i64 m.off) ∧ W.cell? ⟨w.heap.size, 13, none⟩ = some (.slice A k c)) ∧ (W.cell? ⟨b, 0, none⟩ = some (.bool s.bg) ∧ W.cell? ⟨b, 1, none⟩ = some (.int .i64 s.fr) ∧ W.cell? ⟨b, 2, none⟩ = some (.int .i64 s.ix) ∧ W.cell? ⟨b, 3, none⟩ = some (.int .i64 s.tm) ∧ W.cell? ⟨b, 5, none⟩ = some (.slice A0 s.n c0') ∧ W.cell? ⟨b, 6, none⟩ = some (.bool s.done)) := ⟨_, rfl⟩
          have hbx : Blk (w.alloc (.cells #[.int .i64 m.kind, .int .i64 m.fr, m.dst, m.term, .int .i64 m.ix, .int .i64 m.tm, m.commit, m.round, m.ok, .bool m.done, m.ents, .slice A2 k2 c2, .int .i64 m.off, .slice A k c] 51)) w.heap.size 51 #[.int .i64 m.kind, .int .i64 m.fr, m.dst, m.term, .int .i64 m.ix, .int .i64 m.tm, m.commit, m.round, m.ok, .bool m.done, m.ents, .slice A2 k2 c2, .int .i64 m.off, .slice A k c] := Blk.new _ _ _
          have hbb := H.out.blk.alloc (.cells #[.int .i64 m.kind, .int .i64 m.fr, m.dst, m.term, .int .i64 m.ix, .int .i64 m.tm, m.commit, m.round, m.ok, .bool m.done, m.ents, .slice A2 k2 c2, .int .i64 m.off, .slice A k c] 51)
          have hSB : ∀ W, Blk W w.heap.size 51 #[.int .i64 m.kind, .int .i64 m.fr, m.dst, m.term, .int .i64 m.ix, .int .i64 m.tm, m.commit, m.round, m.ok, .bool m.done, m.ents, .slice A2 k2 c2, .int .i64 m.off, .slice A k c] → Blk W b 30 (rfCs s.bg s.fr s.ix s.tm mem (.slice A0 s.n c0') s.done) → S W := fun W hb hb2 => by
            rw [hS]
            exact ⟨⟨hb.cell 1, hb.cell 4, hb.cell 5, hb.cell 12, hb.cell 13⟩, ⟨hb2.cell 0, hb2.cell 1, hb2.cell 2, hb2.cell 3, hb2.cell 5, hb2.cell 6⟩⟩
          have HSB := Lib.hid hSB
          have HSe := Lib.hid hS
          have HS := hSB _ hbx.drew hbb.drew
          have HS0 := HSe.out ▸ HS
          clear hSB hS
          refine wp_region_held (S := S) (by kernel_rfl) ?_
          change wpAnyH _ _ _ _ _ _ _ _ (World.drew _)
          try simp only [Act.put, lT, l0, lS]
          refine tkH 0 (v := ?_) rfl (by kernel_rfl) (fun _ _ _ h => h) (by rfl) HS ?hy ?_
          case hy => intro w hE; rw [HSe.out] at hE; go_simp; try with_reducible rfl
          try simp only [Act.put, lT, l0, lS]
          refine tkH 1 (v := ?_) rfl (by kernel_rfl) (fun _ _ _ h => h) (by rfl) HS ?hy ?_
          case hy => intro w hE; rw [HSe.out] at hE; go_simp; try with_reducible rfl
          try simp only [Act.put, lT, l0, lS]
          refine tkH 2 (v := ?_) rfl (by kernel_rfl) (fun _ _ _ h => h) (by rfl) HS ?hy ?_
          case hy => intro w hE; rw [HSe.out] at hE; go_simp; try with_reducible rfl
          try simp only [Act.put, lT, l0, lS]
          refine tkH 3 (v := ?_) rfl (by kernel_rfl) (fun _ _ _ h => h) (by rfl) HS ?hy ?_
          case hy => intro w hE; rw [HSe.out] at hE; go_simp; try with_reducible rfl
          try simp only [Act.put, lT, l0, lS]
          refine tkH 4 (v := ?_) rfl (by kernel_rfl) (fun _ _ _ h => h) (by rfl) HS ?hy ?_
          case hy => intro w hE; rw [HSe.out] at hE; go_simp; try with_reducible rfl
          try simp only [Act.put, lT, l0, lS]
          try simp only [Act.put, lT, l0, lS]
          refine tkH 5 (v := ?_) rfl (by kernel_rfl) (fun _ _ _ h => h) (by rfl) HS ?hy ?_
          case hy => intro w hE; rw [HSe.out] at hE; go_simp; try with_reducible rfl
          try simp only [Act.put, lT, l0, lS]
          refine tkH 6 (v := ?_) rfl (by kernel_rfl) (fun _ _ _ h => h) (by rfl) HS ?hy ?_
          case hy => intro w hE; rw [HSe.out] at hE; go_simp; try with_reducible rfl
          try simp only [Act.put, lT, l0, lS]
          refine tkH 7 (v := ?_) rfl (by kernel_rfl) (fun _ _ _ h => h) (by rfl) HS ?hy ?_
          case hy => intro w hE; rw [HSe.out] at hE; go_simp; try with_reducible rfl
          try simp only [Act.put, lT, l0, lS]
          refine tkH 8 (v := ?_) rfl (by kernel_rfl) (fun _ _ _ h => h) (by rfl) HS ?hy ?_
          case hy => intro w hE; rw [HSe.out] at hE; go_simp; try with_reducible rfl
          try simp only [Act.put, lT, l0, lS]
          refine tkH 9 (v := ?_) rfl (by kernel_rfl) (fun _ _ _ h => h) (by rfl) HS ?hy ?_
          case hy => intro w hE; rw [HSe.out] at hE; go_simp; try with_reducible rfl
          try simp only [Act.put, lT, l0, lS]
          refine tkH 10 (v := ?_) rfl (by kernel_rfl) (fun _ _ _ h => h) (by rfl) HS ?hy ?_
          case hy => intro w hE; rw [HSe.out] at hE; go_simp; try with_reducible rfl
          try simp only [Act.put, lT, l0, lS]
          refine tkH 11 (v := ?_) rfl (by kernel_rfl) (fun _ _ _ h => h) (by rfl) HS ?hy ?_
          case hy => intro w hE; rw [HSe.out] at hE; go_simp; try with_reducible rfl
          try simp only [Act.put, lT, l0, lS]
          try simp only [cq1]
          try simp only [Act.put, lT, l0, lS]
          refine tkH 12 (v := ?_) rfl (by kernel_rfl) (fun _ _ _ h => h) (by rfl) HS ?hy ?_
          case hy => intro w hE; rw [HSe.out] at hE; go_simp; try with_reducible rfl
          try simp only [Act.put, lT, l0, lS]
          refine tkH 13 (v := ?_) rfl (by kernel_rfl) (fun _ _ _ h => h) (by rfl) HS ?hy ?_
          case hy => intro w hE; rw [HSe.out] at hE; go_simp; try with_reducible rfl
          try simp only [Act.put, lT, l0, lS]
          try simp only [Act.put, lT, l0, lS]
          refine skH 14 rfl (by kernel_rfl) (fun _ _ _ h => h) (by rfl) HS ?_
          try simp only [Act.put, lT, l0, lS]
          refine skH 15 rfl (by kernel_rfl) (fun _ _ _ h => h) (by rfl) HS ?_
          try simp only [Act.put, lT, l0, lS]
          refine skH 16 rfl (by kernel_rfl) (fun _ _ _ h => h) (by rfl) HS ?_
          try simp only [Act.put, lT, l0, lS]
          refine skH 17 rfl (by kernel_rfl) (fun _ _ _ h => h) (by rfl) HS ?_
          try simp only [Act.put, lT, l0, lS]
          refine skH 18 rfl (by kernel_rfl) (fun _ _ _ h => h) (by rfl) HS ?_
          try simp only [Act.put, lT, l0, lS]
          refine skH 19 rfl (by kernel_rfl) (fun _ _ _ h => h) (by rfl) HS ?_
          try simp only [Act.put, lT, l0, lS]
          refine skH 20 rfl (by kernel_rfl) (fun _ _ _ h => h) (by rfl) HS ?_
          try simp only [Act.put, lT, l0, lS]
          try simp only [Act.put, lT, l0, lS]
          refine tkH 21 (v := ?_) rfl (by kernel_rfl) (fun _ _ _ h => h) (by rfl) HS ?hy ?_
          case hy => intro w hE; rw [HSe.out] at hE; go_simp; try with_reducible rfl
          try simp only [Act.put, lT, l0, lS]
          refine tkH 22 (v := ?_) rfl (by kernel_rfl) (fun _ _ _ h => h) (by rfl) HS ?hy ?_
          case hy => intro w hE; rw [HSe.out] at hE; go_simp; try with_reducible rfl
          try simp only [Act.put, lT, l0, lS]
          try simp only [Act.put, lT, l0, lS]
          refine skH 23 rfl (by kernel_rfl) (fun _ _ _ h => h) (by rfl) HS ?_
          try simp only [Act.put, lT, l0, lS]
          refine skH 24 rfl (by kernel_rfl) (fun _ _ _ h => h) (by rfl) HS ?_
          try simp only [Act.put, lT, l0, lS]
          refine skH 25 rfl (by kernel_rfl) (fun _ _ _ h => h) (by rfl) HS ?_
          try simp only [Act.put, lT, l0, lS]
          refine skH 26 rfl (by kernel_rfl) (fun _ _ _ h => h) (by rfl) HS ?_
          try simp only [Act.put, lT, l0, lS]
          refine skH 27 rfl (by kernel_rfl) (fun _ _ _ h => h) (by rfl) HS ?_
          try simp only [Act.put, lT, l0, lS]
          refine skH 28 rfl (by kernel_rfl) (fun _ _ _ h => h) (by rfl) HS ?_
          try simp only [Act.put, lT, l0, lS]
          refine skH 29 rfl (by kernel_rfl) (fun _ _ _ h => h) (by rfl) HS ?_
          try simp only [Act.put, lT, l0, lS]
          try simp only [Act.put, lT, l0, lS]
          refine tkH 30 (v := ?_) rfl (by kernel_rfl) (fun _ _ _ h => h) (by rfl) HS ?hy ?_
          case hy => intro w hE; rw [HSe.out] at hE; go_simp; try with_reducible rfl
          try simp only [Act.put, lT, l0, lS]
          refine tkH 31 (v := ?_) rfl (by kernel_rfl) (fun _ _ _ h => h) (by rfl) HS ?hy ?_
          case hy => intro w hE; rw [HSe.out] at hE; go_simp; try with_reducible rfl
          try simp only [Act.put, lT, l0, lS]
          try simp only [Act.put, lT, l0, lS]
          refine skH 32 rfl (by kernel_rfl) (fun _ _ _ h => h) (by rfl) HS ?_
          try simp only [Act.put, lT, l0, lS]
          refine skH 33 rfl (by kernel_rfl) (fun _ _ _ h => h) (by rfl) HS ?_
          try simp only [Act.put, lT, l0, lS]
          refine skH 34 rfl (by kernel_rfl) (fun _ _ _ h => h) (by rfl) HS ?_
          try simp only [Act.put, lT, l0, lS]
          refine skH 35 rfl (by kernel_rfl) (fun _ _ _ h => h) (by rfl) HS ?_
          try simp only [Act.put, lT, l0, lS]
          refine skH 36 rfl (by kernel_rfl) (fun _ _ _ h => h) (by rfl) HS ?_
          try simp only [Act.put, lT, l0, lS]
          try simp only [Act.put, lT, l0, lS]
          refine tkH 37 (v := ?_) rfl (by kernel_rfl) (fun _ _ _ h => h) (by rfl) HS ?hy ?_
          case hy => intro w hE; rw [HSe.out] at hE; go_simp; try with_reducible rfl
          try simp only [Act.put, lT, l0, lS]
          refine tkH 38 (v := ?_) rfl (by kernel_rfl) (fun _ _ _ h => h) (by rfl) HS ?hy ?_
          case hy => intro w hE; rw [HSe.out] at hE; go_simp; try with_reducible rfl
          try simp only [Act.put, lT, l0, lS]
          try simp only [Act.put, lT, l0, lS]
          refine skH 39 rfl (by kernel_rfl) (fun _ _ _ h => h) (by rfl) HS ?_
          try simp only [Act.put, lT, l0, lS]
          refine skH 40 rfl (by kernel_rfl) (fun _ _ _ h => h) (by rfl) HS ?_
          try simp only [Act.put, lT, l0, lS]
          refine skH 41 rfl (by kernel_rfl) (fun _ _ _ h => h) (by rfl) HS ?_
          try simp only [Act.put, lT, l0, lS]
          refine skH 42 rfl (by kernel_rfl) (fun _ _ _ h => h) (by rfl) HS ?_
          try simp only [Act.put, lT, l0, lS]
          refine skH 43 rfl (by kernel_rfl) (fun _ _ _ h => h) (by rfl) HS ?_
          try simp only [Act.put, lT, l0, lS]
          refine skH 44 rfl (by kernel_rfl) (fun _ _ _ h => h) (by rfl) HS ?_
          try simp only [Act.put, lT, l0, lS]
          refine skH 45 rfl (by kernel_rfl) (fun _ _ _ h => h) (by rfl) HS ?_
          try simp only [Act.put, lT, l0, lS]
          refine skH 46 rfl (by kernel_rfl) (fun _ _ _ h => h) (by rfl) HS ?_
          try simp only [Act.put, lT, l0, lS]
          try simp only [Act.put, lT, l0, lS]
          refine tkH 47 (v := ?_) rfl (by kernel_rfl) (fun _ _ _ h => h) (by rfl) HS ?hy ?_
          case hy => intro w hE; rw [HSe.out] at hE; go_simp; try with_reducible rfl
          try simp only [Act.put, lT, l0, lS]
          refine wpAnyH_done (by kernel_rfl) ?_ _
          go_wp2_with (fail)
          go_region
          go_wp2_with (fail)
          go_ret2
          rw [hR]
          exact ⟨by first | rfl | (rw [e4]; rfl), (((Keeps.refl _ w).alloc _).drew).drew, _, _, H.out.below ((((Below.refl _ w).alloc (Nat.le_refl _) _).drew).drew), fun k e => .inl e⟩
        case' true =>
          have cq1 : (s.fr == m.fr) = true := by rw [Bool.beq_comm]; exact e1
          cases e2 : (m.ix == s.ix)
          case' false =>
            have cq2 : (s.ix == m.ix) = false := by rw [Bool.beq_comm]; exact e2
            have hR : s.take m k qs = s := by simp [RcM.take, RcM.fits, hk5, h0, e2]
            go_enter Tryz.func9, Tryz.ntmps9
            go_wp2_with (fail)
            obtain ⟨S, hS⟩ : ∃ S : World → Prop, S = fun W => (W.cell? ⟨w.heap.size, 1, none⟩ = some (.int .i64 m.fr) ∧ W.cell? ⟨w.heap.size, 4, none⟩ = some (.int .i64 m.ix) ∧ W.cell? ⟨w.heap.size, 5, none⟩ = some (.int .i64 m.tm) ∧ W.cell? ⟨w.heap.size, 12, none⟩ = some (.int .i64 m.off) ∧ W.cell? ⟨w.heap.size, 13, none⟩ = some (.slice A k c)) ∧ (W.cell? ⟨b, 0, none⟩ = some (.bool s.bg) ∧ W.cell? ⟨b, 1, none⟩ = some (.int .i64 s.fr) ∧ W.cell? ⟨b, 2, none⟩ = some (.int .i64 s.ix) ∧ W.cell? ⟨b, 3, none⟩ = some (.int .i64 s.tm) ∧ W.cell? ⟨b, 5, none⟩ = some (.slice A0 s.n c0') ∧ W.cell? ⟨b, 6, none⟩ = some (.bool s.done)) := ⟨_, rfl⟩
            have hbx : Blk (w.alloc (.cells #[.int .i64 m.kind, .int .i64 m.fr, m.dst, m.term, .int .i64 m.ix, .int .i64 m.tm, m.commit, m.round, m.ok, .bool m.done, m.ents, .slice A2 k2 c2, .int .i64 m.off, .slice A k c] 51)) w.heap.size 51 #[.int .i64 m.kind, .int .i64 m.fr, m.dst, m.term, .int .i64 m.ix, .int .i64 m.tm, m.commit, m.round, m.ok, .bool m.done, m.ents, .slice A2 k2 c2, .int .i64 m.off, .slice A k c] := Blk.new _ _ _
            have hbb := H.out.blk.alloc (.cells #[.int .i64 m.kind, .int .i64 m.fr, m.dst, m.term, .int .i64 m.ix, .int .i64 m.tm, m.commit, m.round, m.ok, .bool m.done, m.ents, .slice A2 k2 c2, .int .i64 m.off, .slice A k c] 51)
            have hSB : ∀ W, Blk W w.heap.size 51 #[.int .i64 m.kind, .int .i64 m.fr, m.dst, m.term, .int .i64 m.ix, .int .i64 m.tm, m.commit, m.round, m.ok, .bool m.done, m.ents, .slice A2 k2 c2, .int .i64 m.off, .slice A k c] → Blk W b 30 (rfCs s.bg s.fr s.ix s.tm mem (.slice A0 s.n c0') s.done) → S W := fun W hb hb2 => by
              rw [hS]
              exact ⟨⟨hb.cell 1, hb.cell 4, hb.cell 5, hb.cell 12, hb.cell 13⟩, ⟨hb2.cell 0, hb2.cell 1, hb2.cell 2, hb2.cell 3, hb2.cell 5, hb2.cell 6⟩⟩
            have HSB := Lib.hid hSB
            have HSe := Lib.hid hS
            have HS := hSB _ hbx.drew hbb.drew
            have HS0 := HSe.out ▸ HS
            clear hSB hS
            refine wp_region_held (S := S) (by kernel_rfl) ?_
            change wpAnyH _ _ _ _ _ _ _ _ (World.drew _)
            try simp only [Act.put, lT, l0, lS]
            refine tkH 0 (v := ?_) rfl (by kernel_rfl) (fun _ _ _ h => h) (by rfl) HS ?hy ?_
            case hy => intro w hE; rw [HSe.out] at hE; go_simp; try with_reducible rfl
            try simp only [Act.put, lT, l0, lS]
            refine tkH 1 (v := ?_) rfl (by kernel_rfl) (fun _ _ _ h => h) (by rfl) HS ?hy ?_
            case hy => intro w hE; rw [HSe.out] at hE; go_simp; try with_reducible rfl
            try simp only [Act.put, lT, l0, lS]
            refine tkH 2 (v := ?_) rfl (by kernel_rfl) (fun _ _ _ h => h) (by rfl) HS ?hy ?_
            case hy => intro w hE; rw [HSe.out] at hE; go_simp; try with_reducible rfl
            try simp only [Act.put, lT, l0, lS]
            refine tkH 3 (v := ?_) rfl (by kernel_rfl) (fun _ _ _ h => h) (by rfl) HS ?hy ?_
            case hy => intro w hE; rw [HSe.out] at hE; go_simp; try with_reducible rfl
            try simp only [Act.put, lT, l0, lS]
            refine tkH 4 (v := ?_) rfl (by kernel_rfl) (fun _ _ _ h => h) (by rfl) HS ?hy ?_
            case hy => intro w hE; rw [HSe.out] at hE; go_simp; try with_reducible rfl
            try simp only [Act.put, lT, l0, lS]
            try simp only [Act.put, lT, l0, lS]
            refine tkH 5 (v := ?_) rfl (by kernel_rfl) (fun _ _ _ h => h) (by rfl) HS ?hy ?_
            case hy => intro w hE; rw [HSe.out] at hE; go_simp; try with_reducible rfl
            try simp only [Act.put, lT, l0, lS]
            refine tkH 6 (v := ?_) rfl (by kernel_rfl) (fun _ _ _ h => h) (by rfl) HS ?hy ?_
            case hy => intro w hE; rw [HSe.out] at hE; go_simp; try with_reducible rfl
            try simp only [Act.put, lT, l0, lS]
            refine tkH 7 (v := ?_) rfl (by kernel_rfl) (fun _ _ _ h => h) (by rfl) HS ?hy ?_
            case hy => intro w hE; rw [HSe.out] at hE; go_simp; try with_reducible rfl
            try simp only [Act.put, lT, l0, lS]
            refine tkH 8 (v := ?_) rfl (by kernel_rfl) (fun _ _ _ h => h) (by rfl) HS ?hy ?_
            case hy => intro w hE; rw [HSe.out] at hE; go_simp; try with_reducible rfl
            try simp only [Act.put, lT, l0, lS]
            refine tkH 9 (v := ?_) rfl (by kernel_rfl) (fun _ _ _ h => h) (by rfl) HS ?hy ?_
            case hy => intro w hE; rw [HSe.out] at hE; go_simp; try with_reducible rfl
            try simp only [Act.put, lT, l0, lS]
            refine tkH 10 (v := ?_) rfl (by kernel_rfl) (fun _ _ _ h => h) (by rfl) HS ?hy ?_
            case hy => intro w hE; rw [HSe.out] at hE; go_simp; try with_reducible rfl
            try simp only [Act.put, lT, l0, lS]
            refine tkH 11 (v := ?_) rfl (by kernel_rfl) (fun _ _ _ h => h) (by rfl) HS ?hy ?_
            case hy => intro w hE; rw [HSe.out] at hE; go_simp; try with_reducible rfl
            try simp only [Act.put, lT, l0, lS]
            try simp only [cq1]
            try simp only [Act.put, lT, l0, lS]
            refine tkH 12 (v := ?_) rfl (by kernel_rfl) (fun _ _ _ h => h) (by rfl) HS ?hy ?_
            case hy => intro w hE; rw [HSe.out] at hE; go_simp; try with_reducible rfl
            try simp only [Act.put, lT, l0, lS]
            refine tkH 13 (v := ?_) rfl (by kernel_rfl) (fun _ _ _ h => h) (by rfl) HS ?hy ?_
            case hy => intro w hE; rw [HSe.out] at hE; go_simp; try with_reducible rfl
            try simp only [Act.put, lT, l0, lS]
            try simp only [Act.put, lT, l0, lS]
            refine tkH 14 (v := ?_) rfl (by kernel_rfl) (fun _ _ _ h => h) (by rfl) HS ?hy ?_
            case hy => intro w hE; rw [HSe.out] at hE; go_simp; try with_reducible rfl
            try simp only [Act.put, lT, l0, lS]
            refine tkH 15 (v := ?_) rfl (by kernel_rfl) (fun _ _ _ h => h) (by rfl) HS ?hy ?_
            case hy => intro w hE; rw [HSe.out] at hE; go_simp; try with_reducible rfl
            try simp only [Act.put, lT, l0, lS]
            refine tkH 16 (v := ?_) rfl (by kernel_rfl) (fun _ _ _ h => h) (by rfl) HS ?hy ?_
            case hy => intro w hE; rw [HSe.out] at hE; go_simp; try with_reducible rfl
            try simp only [Act.put, lT, l0, lS]
            refine tkH 17 (v := ?_) rfl (by kernel_rfl) (fun _ _ _ h => h) (by rfl) HS ?hy ?_
            case hy => intro w hE; rw [HSe.out] at hE; go_simp; try with_reducible rfl
            try simp only [Act.put, lT, l0, lS]
            refine tkH 18 (v := ?_) rfl (by kernel_rfl) (fun _ _ _ h => h) (by rfl) HS ?hy ?_
            case hy => intro w hE; rw [HSe.out] at hE; go_simp; try with_reducible rfl
            try simp only [Act.put, lT, l0, lS]
            refine tkH 19 (v := ?_) rfl (by kernel_rfl) (fun _ _ _ h => h) (by rfl) HS ?hy ?_
            case hy => intro w hE; rw [HSe.out] at hE; go_simp; try with_reducible rfl
            try simp only [Act.put, lT, l0, lS]
            refine tkH 20 (v := ?_) rfl (by kernel_rfl) (fun _ _ _ h => h) (by rfl) HS ?hy ?_
            case hy => intro w hE; rw [HSe.out] at hE; go_simp; try with_reducible rfl
            try simp only [Act.put, lT, l0, lS]
            try simp only [cq2]
            try simp only [Act.put, lT, l0, lS]
            refine tkH 21 (v := ?_) rfl (by kernel_rfl) (fun _ _ _ h => h) (by rfl) HS ?hy ?_
            case hy => intro w hE; rw [HSe.out] at hE; go_simp; try with_reducible rfl
            try simp only [Act.put, lT, l0, lS]
            refine tkH 22 (v := ?_) rfl (by kernel_rfl) (fun _ _ _ h => h) (by rfl) HS ?hy ?_
            case hy => intro w hE; rw [HSe.out] at hE; go_simp; try with_reducible rfl
            try simp only [Act.put, lT, l0, lS]
            try simp only [Act.put, lT, l0, lS]
            refine skH 23 rfl (by kernel_rfl) (fun _ _ _ h => h) (by rfl) HS ?_
            try simp only [Act.put, lT, l0, lS]
            refine skH 24 rfl (by kernel_rfl) (fun _ _ _ h => h) (by rfl) HS ?_
            try simp only [Act.put, lT, l0, lS]
            refine skH 25 rfl (by kernel_rfl) (fun _ _ _ h => h) (by rfl) HS ?_
            try simp only [Act.put, lT, l0, lS]
            refine skH 26 rfl (by kernel_rfl) (fun _ _ _ h => h) (by rfl) HS ?_
            try simp only [Act.put, lT, l0, lS]
            refine skH 27 rfl (by kernel_rfl) (fun _ _ _ h => h) (by rfl) HS ?_
            try simp only [Act.put, lT, l0, lS]
            refine skH 28 rfl (by kernel_rfl) (fun _ _ _ h => h) (by rfl) HS ?_
            try simp only [Act.put, lT, l0, lS]
            refine skH 29 rfl (by kernel_rfl) (fun _ _ _ h => h) (by rfl) HS ?_
            try simp only [Act.put, lT, l0, lS]
            try simp only [Act.put, lT, l0, lS]
            refine tkH 30 (v := ?_) rfl (by kernel_rfl) (fun _ _ _ h => h) (by rfl) HS ?hy ?_
            case hy => intro w hE; rw [HSe.out] at hE; go_simp; try with_reducible rfl
            try simp only [Act.put, lT, l0, lS]
            refine tkH 31 (v := ?_) rfl (by kernel_rfl) (fun _ _ _ h => h) (by rfl) HS ?hy ?_
            case hy => intro w hE; rw [HSe.out] at hE; go_simp; try with_reducible rfl
            try simp only [Act.put, lT, l0, lS]
            try simp only [Act.put, lT, l0, lS]
            refine skH 32 rfl (by kernel_rfl) (fun _ _ _ h => h) (by rfl) HS ?_
            try simp only [Act.put, lT, l0, lS]
            refine skH 33 rfl (by kernel_rfl) (fun _ _ _ h => h) (by rfl) HS ?_
            try simp only [Act.put, lT, l0, lS]
            refine skH 34 rfl (by kernel_rfl) (fun _ _ _ h => h) (by rfl) HS ?_
            try simp only [Act.put, lT, l0, lS]
            refine skH 35 rfl (by kernel_rfl) (fun _ _ _ h => h) (by rfl) HS ?_
            try simp only [Act.put, lT, l0, lS]
            refine skH 36 rfl (by kernel_rfl) (fun _ _ _ h => h) (by rfl) HS ?_
            try simp only [Act.put, lT, l0, lS]
            try simp only [Act.put, lT, l0, lS]
            refine tkH 37 (v := ?_) rfl (by kernel_rfl) (fun _ _ _ h => h) (by rfl) HS ?hy ?_
            case hy => intro w hE; rw [HSe.out] at hE; go_simp; try with_reducible rfl
            try simp only [Act.put, lT, l0, lS]
            refine tkH 38 (v := ?_) rfl (by kernel_rfl) (fun _ _ _ h => h) (by rfl) HS ?hy ?_
            case hy => intro w hE; rw [HSe.out] at hE; go_simp; try with_reducible rfl
            try simp only [Act.put, lT, l0, lS]
            try simp only [Act.put, lT, l0, lS]
            refine skH 39 rfl (by kernel_rfl) (fun _ _ _ h => h) (by rfl) HS ?_
            try simp only [Act.put, lT, l0, lS]
            refine skH 40 rfl (by kernel_rfl) (fun _ _ _ h => h) (by rfl) HS ?_
            try simp only [Act.put, lT, l0, lS]
            refine skH 41 rfl (by kernel_rfl) (fun _ _ _ h => h) (by rfl) HS ?_
            try simp only [Act.put, lT, l0, lS]
            refine skH 42 rfl (by kernel_rfl) (fun _ _ _ h => h) (by rfl) HS ?_
            try simp only [Act.put, lT, l0, lS]
            refine skH 43 rfl (by kernel_rfl) (fun _ _ _ h => h) (by rfl) HS ?_
            try simp only [Act.put, lT, l0, lS]
            refine skH 44 rfl (by kernel_rfl) (fun _ _ _ h => h) (by rfl) HS ?_
            try simp only [Act.put, lT, l0, lS]
            refine skH 45 rfl (by kernel_rfl) (fun _ _ _ h => h) (by rfl) HS ?_
            try simp only [Act.put, lT, l0, lS]
            refine skH 46 rfl (by kernel_rfl) (fun _ _ _ h => h) (by rfl) HS ?_
            try simp only [Act.put, lT, l0, lS]
            try simp only [Act.put, lT, l0, lS]
            refine tkH 47 (v := ?_) rfl (by kernel_rfl) (fun _ _ _ h => h) (by rfl) HS ?hy ?_
            case hy => intro w hE; rw [HSe.out] at hE; go_simp; try with_reducible rfl
            try simp only [Act.put, lT, l0, lS]
            refine wpAnyH_done (by kernel_rfl) ?_ _
            go_wp2_with (fail)
            go_region
            go_wp2_with (fail)
            go_ret2
            rw [hR]
            exact ⟨by first | rfl | (rw [e4]; rfl), (((Keeps.refl _ w).alloc _).drew).drew, _, _, H.out.below ((((Below.refl _ w).alloc (Nat.le_refl _) _).drew).drew), fun k e => .inl e⟩
          case' true =>
            have cq2 : (s.ix == m.ix) = true := by rw [Bool.beq_comm]; exact e2
            cases e3 : (m.tm == s.tm)
            case' false =>
              have cq3 : (s.tm == m.tm) = false := by rw [Bool.beq_comm]; exact e3
              have hR : s.take m k qs = s := by simp [RcM.take, RcM.fits, hk5, h0, e3]
              go_enter Tryz.func9, Tryz.ntmps9
              go_wp2_with (fail)
              obtain ⟨S, hS⟩ : ∃ S : World → Prop, S = fun W => (W.cell? ⟨w.heap.size, 1, none⟩ = some (.int .i64 m.fr) ∧ W.cell? ⟨w.heap.size, 4, none⟩ = some (.int .i64 m.ix) ∧ W.cell? ⟨w.heap.size, 5, none⟩ = some (.int .i64 m.tm) ∧ W.cell? ⟨w.heap.size, 12, none⟩ = some (.int .i64 m.off) ∧ W.cell? ⟨w.heap.size, 13, none⟩ = some (.slice A k c)) ∧ (W.cell? ⟨b, 0, none⟩ = some (.bool s.bg) ∧ W.cell? ⟨b, 1, none⟩ = some (.int .i64 s.fr) ∧ W.cell? ⟨b, 2, none⟩ = some (.int .i64 s.ix) ∧ W.cell? ⟨b, 3, none⟩ = some (.int .i64 s.tm) ∧ W.cell? ⟨b, 5, none⟩ = some (.slice A0 s.n c0') ∧ W.cell? ⟨b, 6, none⟩ = some (.bool s.done)) := ⟨_, rfl⟩
              have hbx : Blk (w.alloc (.cells #[.int .i64 m.kind, .int .i64 m.fr, m.dst, m.term, .int .i64 m.ix, .int .i64 m.tm, m.commit, m.round, m.ok, .bool m.done, m.ents, .slice A2 k2 c2, .int .i64 m.off, .slice A k c] 51)) w.heap.size 51 #[.int .i64 m.kind, .int .i64 m.fr, m.dst, m.term, .int .i64 m.ix, .int .i64 m.tm, m.commit, m.round, m.ok, .bool m.done, m.ents, .slice A2 k2 c2, .int .i64 m.off, .slice A k c] := Blk.new _ _ _
              have hbb := H.out.blk.alloc (.cells #[.int .i64 m.kind, .int .i64 m.fr, m.dst, m.term, .int .i64 m.ix, .int .i64 m.tm, m.commit, m.round, m.ok, .bool m.done, m.ents, .slice A2 k2 c2, .int .i64 m.off, .slice A k c] 51)
              have hSB : ∀ W, Blk W w.heap.size 51 #[.int .i64 m.kind, .int .i64 m.fr, m.dst, m.term, .int .i64 m.ix, .int .i64 m.tm, m.commit, m.round, m.ok, .bool m.done, m.ents, .slice A2 k2 c2, .int .i64 m.off, .slice A k c] → Blk W b 30 (rfCs s.bg s.fr s.ix s.tm mem (.slice A0 s.n c0') s.done) → S W := fun W hb hb2 => by
                rw [hS]
                exact ⟨⟨hb.cell 1, hb.cell 4, hb.cell 5, hb.cell 12, hb.cell 13⟩, ⟨hb2.cell 0, hb2.cell 1, hb2.cell 2, hb2.cell 3, hb2.cell 5, hb2.cell 6⟩⟩
              have HSB := Lib.hid hSB
              have HSe := Lib.hid hS
              have HS := hSB _ hbx.drew hbb.drew
              have HS0 := HSe.out ▸ HS
              clear hSB hS
              refine wp_region_held (S := S) (by kernel_rfl) ?_
              change wpAnyH _ _ _ _ _ _ _ _ (World.drew _)
              try simp only [Act.put, lT, l0, lS]
              refine tkH 0 (v := ?_) rfl (by kernel_rfl) (fun _ _ _ h => h) (by rfl) HS ?hy ?_
              case hy => intro w hE; rw [HSe.out] at hE; go_simp; try with_reducible rfl
              try simp only [Act.put, lT, l0, lS]
              refine tkH 1 (v := ?_) rfl (by kernel_rfl) (fun _ _ _ h => h) (by rfl) HS ?hy ?_
              case hy => intro w hE; rw [HSe.out] at hE; go_simp; try with_reducible rfl
              try simp only [Act.put, lT, l0, lS]
              refine tkH 2 (v := ?_) rfl (by kernel_rfl) (fun _ _ _ h => h) (by rfl) HS ?hy ?_
              case hy => intro w hE; rw [HSe.out] at hE; go_simp; try with_reducible rfl
              try simp only [Act.put, lT, l0, lS]
              refine tkH 3 (v := ?_) rfl (by kernel_rfl) (fun _ _ _ h => h) (by rfl) HS ?hy ?_
              case hy => intro w hE; rw [HSe.out] at hE; go_simp; try with_reducible rfl
              try simp only [Act.put, lT, l0, lS]
              refine tkH 4 (v := ?_) rfl (by kernel_rfl) (fun _ _ _ h => h) (by rfl) HS ?hy ?_
              case hy => intro w hE; rw [HSe.out] at hE; go_simp; try with_reducible rfl
              try simp only [Act.put, lT, l0, lS]
              try simp only [Act.put, lT, l0, lS]
              refine tkH 5 (v := ?_) rfl (by kernel_rfl) (fun _ _ _ h => h) (by rfl) HS ?hy ?_
              case hy => intro w hE; rw [HSe.out] at hE; go_simp; try with_reducible rfl
              try simp only [Act.put, lT, l0, lS]
              refine tkH 6 (v := ?_) rfl (by kernel_rfl) (fun _ _ _ h => h) (by rfl) HS ?hy ?_
              case hy => intro w hE; rw [HSe.out] at hE; go_simp; try with_reducible rfl
              try simp only [Act.put, lT, l0, lS]
              refine tkH 7 (v := ?_) rfl (by kernel_rfl) (fun _ _ _ h => h) (by rfl) HS ?hy ?_
              case hy => intro w hE; rw [HSe.out] at hE; go_simp; try with_reducible rfl
              try simp only [Act.put, lT, l0, lS]
              refine tkH 8 (v := ?_) rfl (by kernel_rfl) (fun _ _ _ h => h) (by rfl) HS ?hy ?_
              case hy => intro w hE; rw [HSe.out] at hE; go_simp; try with_reducible rfl
              try simp only [Act.put, lT, l0, lS]
              refine tkH 9 (v := ?_) rfl (by kernel_rfl) (fun _ _ _ h => h) (by rfl) HS ?hy ?_
              case hy => intro w hE; rw [HSe.out] at hE; go_simp; try with_reducible rfl
              try simp only [Act.put, lT, l0, lS]
              refine tkH 10 (v := ?_) rfl (by kernel_rfl) (fun _ _ _ h => h) (by rfl) HS ?hy ?_
              case hy => intro w hE; rw [HSe.out] at hE; go_simp; try with_reducible rfl
              try simp only [Act.put, lT, l0, lS]
              refine tkH 11 (v := ?_) rfl (by kernel_rfl) (fun _ _ _ h => h) (by rfl) HS ?hy ?_
              case hy => intro w hE; rw [HSe.out] at hE; go_simp; try with_reducible rfl
              try simp only [Act.put, lT, l0, lS]
              try simp only [cq1]
              try simp only [Act.put, lT, l0, lS]
              refine tkH 12 (v := ?_) rfl (by kernel_rfl) (fun _ _ _ h => h) (by rfl) HS ?hy ?_
              case hy => intro w hE; rw [HSe.out] at hE; go_simp; try with_reducible rfl
              try simp only [Act.put, lT, l0, lS]
              refine tkH 13 (v := ?_) rfl (by kernel_rfl) (fun _ _ _ h => h) (by rfl) HS ?hy ?_
              case hy => intro w hE; rw [HSe.out] at hE; go_simp; try with_reducible rfl
              try simp only [Act.put, lT, l0, lS]
              try simp only [Act.put, lT, l0, lS]
              refine tkH 14 (v := ?_) rfl (by kernel_rfl) (fun _ _ _ h => h) (by rfl) HS ?hy ?_
              case hy => intro w hE; rw [HSe.out] at hE; go_simp; try with_reducible rfl
              try simp only [Act.put, lT, l0, lS]
              refine tkH 15 (v := ?_) rfl (by kernel_rfl) (fun _ _ _ h => h) (by rfl) HS ?hy ?_
              case hy => intro w hE; rw [HSe.out] at hE; go_simp; try with_reducible rfl
              try simp only [Act.put, lT, l0, lS]
              refine tkH 16 (v := ?_) rfl (by kernel_rfl) (fun _ _ _ h => h) (by rfl) HS ?hy ?_
              case hy => intro w hE; rw [HSe.out] at hE; go_simp; try with_reducible rfl
              try simp only [Act.put, lT, l0, lS]
              refine tkH 17 (v := ?_) rfl (by kernel_rfl) (fun _ _ _ h => h) (by rfl) HS ?hy ?_
              case hy => intro w hE; rw [HSe.out] at hE; go_simp; try with_reducible rfl
              try simp only [Act.put, lT, l0, lS]
              refine tkH 18 (v := ?_) rfl (by kernel_rfl) (fun _ _ _ h => h) (by rfl) HS ?hy ?_
              case hy => intro w hE; rw [HSe.out] at hE; go_simp; try with_reducible rfl
              try simp only [Act.put, lT, l0, lS]
              refine tkH 19 (v := ?_) rfl (by kernel_rfl) (fun _ _ _ h => h) (by rfl) HS ?hy ?_
              case hy => intro w hE; rw [HSe.out] at hE; go_simp; try with_reducible rfl
              try simp only [Act.put, lT, l0, lS]
              refine tkH 20 (v := ?_) rfl (by kernel_rfl) (fun _ _ _ h => h) (by rfl) HS ?hy ?_
              case hy => intro w hE; rw [HSe.out] at hE; go_simp; try with_reducible rfl
              try simp only [Act.put, lT, l0, lS]
              try simp only [cq2]
              try simp only [Act.put, lT, l0, lS]
              refine tkH 21 (v := ?_) rfl (by kernel_rfl) (fun _ _ _ h => h) (by rfl) HS ?hy ?_
              case hy => intro w hE; rw [HSe.out] at hE; go_simp; try with_reducible rfl
              try simp only [Act.put, lT, l0, lS]
              refine tkH 22 (v := ?_) rfl (by kernel_rfl) (fun _ _ _ h => h) (by rfl) HS ?hy ?_
              case hy => intro w hE; rw [HSe.out] at hE; go_simp; try with_reducible rfl
              try simp only [Act.put, lT, l0, lS]
              try simp only [Act.put, lT, l0, lS]
              refine tkH 23 (v := ?_) rfl (by kernel_rfl) (fun _ _ _ h => h) (by rfl) HS ?hy ?_
              case hy => intro w hE; rw [HSe.out] at hE; go_simp; try with_reducible rfl
              try simp only [Act.put, lT, l0, lS]
              refine tkH 24 (v := ?_) rfl (by kernel_rfl) (fun _ _ _ h => h) (by rfl) HS ?hy ?_
              case hy => intro w hE; rw [HSe.out] at hE; go_simp; try with_reducible rfl
              try simp only [Act.put, lT, l0, lS]
              refine tkH 25 (v := ?_) rfl (by kernel_rfl) (fun _ _ _ h => h) (by rfl) HS ?hy ?_
              case hy => intro w hE; rw [HSe.out] at hE; go_simp; try with_reducible rfl
              try simp only [Act.put, lT, l0, lS]
              refine tkH 26 (v := ?_) rfl (by kernel_rfl) (fun _ _ _ h => h) (by rfl) HS ?hy ?_
              case hy => intro w hE; rw [HSe.out] at hE; go_simp; try with_reducible rfl
              try simp only [Act.put, lT, l0, lS]
              refine tkH 27 (v := ?_) rfl (by kernel_rfl) (fun _ _ _ h => h) (by rfl) HS ?hy ?_
              case hy => intro w hE; rw [HSe.out] at hE; go_simp; try with_reducible rfl
              try simp only [Act.put, lT, l0, lS]
              refine tkH 28 (v := ?_) rfl (by kernel_rfl) (fun _ _ _ h => h) (by rfl) HS ?hy ?_
              case hy => intro w hE; rw [HSe.out] at hE; go_simp; try with_reducible rfl
              try simp only [Act.put, lT, l0, lS]
              refine tkH 29 (v := ?_) rfl (by kernel_rfl) (fun _ _ _ h => h) (by rfl) HS ?hy ?_
              case hy => intro w hE; rw [HSe.out] at hE; go_simp; try with_reducible rfl
              try simp only [Act.put, lT, l0, lS]
              try simp only [cq3]
              try simp only [Act.put, lT, l0, lS]
              refine tkH 30 (v := ?_) rfl (by kernel_rfl) (fun _ _ _ h => h) (by rfl) HS ?hy ?_
              case hy => intro w hE; rw [HSe.out] at hE; go_simp; try with_reducible rfl
              try simp only [Act.put, lT, l0, lS]
              refine tkH 31 (v := ?_) rfl (by kernel_rfl) (fun _ _ _ h => h) (by rfl) HS ?hy ?_
              case hy => intro w hE; rw [HSe.out] at hE; go_simp; try with_reducible rfl
              try simp only [Act.put, lT, l0, lS]
              try simp only [Act.put, lT, l0, lS]
              refine skH 32 rfl (by kernel_rfl) (fun _ _ _ h => h) (by rfl) HS ?_
              try simp only [Act.put, lT, l0, lS]
              refine skH 33 rfl (by kernel_rfl) (fun _ _ _ h => h) (by rfl) HS ?_
              try simp only [Act.put, lT, l0, lS]
              refine skH 34 rfl (by kernel_rfl) (fun _ _ _ h => h) (by rfl) HS ?_
              try simp only [Act.put, lT, l0, lS]
              refine skH 35 rfl (by kernel_rfl) (fun _ _ _ h => h) (by rfl) HS ?_
              try simp only [Act.put, lT, l0, lS]
              refine skH 36 rfl (by kernel_rfl) (fun _ _ _ h => h) (by rfl) HS ?_
              try simp only [Act.put, lT, l0, lS]
              try simp only [Act.put, lT, l0, lS]
              refine tkH 37 (v := ?_) rfl (by kernel_rfl) (fun _ _ _ h => h) (by rfl) HS ?hy ?_
              case hy => intro w hE; rw [HSe.out] at hE; go_simp; try with_reducible rfl
              try simp only [Act.put, lT, l0, lS]
              refine tkH 38 (v := ?_) rfl (by kernel_rfl) (fun _ _ _ h => h) (by rfl) HS ?hy ?_
              case hy => intro w hE; rw [HSe.out] at hE; go_simp; try with_reducible rfl
              try simp only [Act.put, lT, l0, lS]
              try simp only [Act.put, lT, l0, lS]
              refine skH 39 rfl (by kernel_rfl) (fun _ _ _ h => h) (by rfl) HS ?_
              try simp only [Act.put, lT, l0, lS]
              refine skH 40 rfl (by kernel_rfl) (fun _ _ _ h => h) (by rfl) HS ?_
              try simp only [Act.put, lT, l0, lS]
              refine skH 41 rfl (by kernel_rfl) (fun _ _ _ h => h) (by rfl) HS ?_
              try simp only [Act.put, lT, l0, lS]
              refine skH 42 rfl (by kernel_rfl) (fun _ _ _ h => h) (by rfl) HS ?_
              try simp only [Act.put, lT, l0, lS]
              refine skH 43 rfl (by kernel_rfl) (fun _ _ _ h => h) (by rfl) HS ?_
              try simp only [Act.put, lT, l0, lS]
              refine skH 44 rfl (by kernel_rfl) (fun _ _ _ h => h) (by rfl) HS ?_
              try simp only [Act.put, lT, l0, lS]
              refine skH 45 rfl (by kernel_rfl) (fun _ _ _ h => h) (by rfl) HS ?_
              try simp only [Act.put, lT, l0, lS]
              refine skH 46 rfl (by kernel_rfl) (fun _ _ _ h => h) (by rfl) HS ?_
              try simp only [Act.put, lT, l0, lS]
              try simp only [Act.put, lT, l0, lS]
              refine tkH 47 (v := ?_) rfl (by kernel_rfl) (fun _ _ _ h => h) (by rfl) HS ?hy ?_
              case hy => intro w hE; rw [HSe.out] at hE; go_simp; try with_reducible rfl
              try simp only [Act.put, lT, l0, lS]
              refine wpAnyH_done (by kernel_rfl) ?_ _
              go_wp2_with (fail)
              go_region
              go_wp2_with (fail)
              go_ret2
              rw [hR]
              exact ⟨by first | rfl | (rw [e4]; rfl), (((Keeps.refl _ w).alloc _).drew).drew, _, _, H.out.below ((((Below.refl _ w).alloc (Nat.le_refl _) _).drew).drew), fun k e => .inl e⟩
            case' true =>
              have cq3 : (s.tm == m.tm) = true := by rw [Bool.beq_comm]; exact e3
              cases e4 : s.done
              case' true =>
                have hR : s.take m k qs = s := by simp [RcM.take, RcM.fits, hk5, h0, e4]
                go_enter Tryz.func9, Tryz.ntmps9
                go_wp2_with (fail)
                obtain ⟨S, hS⟩ : ∃ S : World → Prop, S = fun W => (W.cell? ⟨w.heap.size, 1, none⟩ = some (.int .i64 m.fr) ∧ W.cell? ⟨w.heap.size, 4, none⟩ = some (.int .i64 m.ix) ∧ W.cell? ⟨w.heap.size, 5, none⟩ = some (.int .i64 m.tm) ∧ W.cell? ⟨w.heap.size, 12, none⟩ = some (.int .i64 m.off) ∧ W.cell? ⟨w.heap.size, 13, none⟩ = some (.slice A k c)) ∧ (W.cell? ⟨b, 0, none⟩ = some (.bool s.bg) ∧ W.cell? ⟨b, 1, none⟩ = some (.int .i64 s.fr) ∧ W.cell? ⟨b, 2, none⟩ = some (.int .i64 s.ix) ∧ W.cell? ⟨b, 3, none⟩ = some (.int .i64 s.tm) ∧ W.cell? ⟨b, 5, none⟩ = some (.slice A0 s.n c0') ∧ W.cell? ⟨b, 6, none⟩ = some (.bool s.done)) := ⟨_, rfl⟩
                have hbx : Blk (w.alloc (.cells #[.int .i64 m.kind, .int .i64 m.fr, m.dst, m.term, .int .i64 m.ix, .int .i64 m.tm, m.commit, m.round, m.ok, .bool m.done, m.ents, .slice A2 k2 c2, .int .i64 m.off, .slice A k c] 51)) w.heap.size 51 #[.int .i64 m.kind, .int .i64 m.fr, m.dst, m.term, .int .i64 m.ix, .int .i64 m.tm, m.commit, m.round, m.ok, .bool m.done, m.ents, .slice A2 k2 c2, .int .i64 m.off, .slice A k c] := Blk.new _ _ _
                have hbb := H.out.blk.alloc (.cells #[.int .i64 m.kind, .int .i64 m.fr, m.dst, m.term, .int .i64 m.ix, .int .i64 m.tm, m.commit, m.round, m.ok, .bool m.done, m.ents, .slice A2 k2 c2, .int .i64 m.off, .slice A k c] 51)
                have hSB : ∀ W, Blk W w.heap.size 51 #[.int .i64 m.kind, .int .i64 m.fr, m.dst, m.term, .int .i64 m.ix, .int .i64 m.tm, m.commit, m.round, m.ok, .bool m.done, m.ents, .slice A2 k2 c2, .int .i64 m.off, .slice A k c] → Blk W b 30 (rfCs s.bg s.fr s.ix s.tm mem (.slice A0 s.n c0') s.done) → S W := fun W hb hb2 => by
                  rw [hS]
                  exact ⟨⟨hb.cell 1, hb.cell 4, hb.cell 5, hb.cell 12, hb.cell 13⟩, ⟨hb2.cell 0, hb2.cell 1, hb2.cell 2, hb2.cell 3, hb2.cell 5, hb2.cell 6⟩⟩
                have HSB := Lib.hid hSB
                have HSe := Lib.hid hS
                have HS := hSB _ hbx.drew hbb.drew
                have HS0 := HSe.out ▸ HS
                clear hSB hS
                refine wp_region_held (S := S) (by kernel_rfl) ?_
                change wpAnyH _ _ _ _ _ _ _ _ (World.drew _)
                try simp only [Act.put, lT, l0, lS]
                refine tkH 0 (v := ?_) rfl (by kernel_rfl) (fun _ _ _ h => h) (by rfl) HS ?hy ?_
                case hy => intro w hE; rw [HSe.out] at hE; go_simp; try with_reducible rfl
                try simp only [Act.put, lT, l0, lS]
                refine tkH 1 (v := ?_) rfl (by kernel_rfl) (fun _ _ _ h => h) (by rfl) HS ?hy ?_
                case hy => intro w hE; rw [HSe.out] at hE; go_simp; try with_reducible rfl
                try simp only [Act.put, lT, l0, lS]
                refine tkH 2 (v := ?_) rfl (by kernel_rfl) (fun _ _ _ h => h) (by rfl) HS ?hy ?_
                case hy => intro w hE; rw [HSe.out] at hE; go_simp; try with_reducible rfl
                try simp only [Act.put, lT, l0, lS]
                refine tkH 3 (v := ?_) rfl (by kernel_rfl) (fun _ _ _ h => h) (by rfl) HS ?hy ?_
                case hy => intro w hE; rw [HSe.out] at hE; go_simp; try with_reducible rfl
                try simp only [Act.put, lT, l0, lS]
                refine tkH 4 (v := ?_) rfl (by kernel_rfl) (fun _ _ _ h => h) (by rfl) HS ?hy ?_
                case hy => intro w hE; rw [HSe.out] at hE; go_simp; try with_reducible rfl
                try simp only [Act.put, lT, l0, lS]
                try simp only [Act.put, lT, l0, lS]
                refine tkH 5 (v := ?_) rfl (by kernel_rfl) (fun _ _ _ h => h) (by rfl) HS ?hy ?_
                case hy => intro w hE; rw [HSe.out] at hE; go_simp; try with_reducible rfl
                try simp only [Act.put, lT, l0, lS]
                refine tkH 6 (v := ?_) rfl (by kernel_rfl) (fun _ _ _ h => h) (by rfl) HS ?hy ?_
                case hy => intro w hE; rw [HSe.out] at hE; go_simp; try with_reducible rfl
                try simp only [Act.put, lT, l0, lS]
                refine tkH 7 (v := ?_) rfl (by kernel_rfl) (fun _ _ _ h => h) (by rfl) HS ?hy ?_
                case hy => intro w hE; rw [HSe.out] at hE; go_simp; try with_reducible rfl
                try simp only [Act.put, lT, l0, lS]
                refine tkH 8 (v := ?_) rfl (by kernel_rfl) (fun _ _ _ h => h) (by rfl) HS ?hy ?_
                case hy => intro w hE; rw [HSe.out] at hE; go_simp; try with_reducible rfl
                try simp only [Act.put, lT, l0, lS]
                refine tkH 9 (v := ?_) rfl (by kernel_rfl) (fun _ _ _ h => h) (by rfl) HS ?hy ?_
                case hy => intro w hE; rw [HSe.out] at hE; go_simp; try with_reducible rfl
                try simp only [Act.put, lT, l0, lS]
                refine tkH 10 (v := ?_) rfl (by kernel_rfl) (fun _ _ _ h => h) (by rfl) HS ?hy ?_
                case hy => intro w hE; rw [HSe.out] at hE; go_simp; try with_reducible rfl
                try simp only [Act.put, lT, l0, lS]
                refine tkH 11 (v := ?_) rfl (by kernel_rfl) (fun _ _ _ h => h) (by rfl) HS ?hy ?_
                case hy => intro w hE; rw [HSe.out] at hE; go_simp; try with_reducible rfl
                try simp only [Act.put, lT, l0, lS]
                try simp only [cq1]
                try simp only [Act.put, lT, l0, lS]
                refine tkH 12 (v := ?_) rfl (by kernel_rfl) (fun _ _ _ h => h) (by rfl) HS ?hy ?_
                case hy => intro w hE; rw [HSe.out] at hE; go_simp; try with_reducible rfl
                try simp only [Act.put, lT, l0, lS]
                refine tkH 13 (v := ?_) rfl (by kernel_rfl) (fun _ _ _ h => h) (by rfl) HS ?hy ?_
                case hy => intro w hE; rw [HSe.out] at hE; go_simp; try with_reducible rfl
                try simp only [Act.put, lT, l0, lS]
                try simp only [Act.put, lT, l0, lS]
                refine tkH 14 (v := ?_) rfl (by kernel_rfl) (fun _ _ _ h => h) (by rfl) HS ?hy ?_
                case hy => intro w hE; rw [HSe.out] at hE; go_simp; try with_reducible rfl
                try simp only [Act.put, lT, l0, lS]
                refine tkH 15 (v := ?_) rfl (by kernel_rfl) (fun _ _ _ h => h) (by rfl) HS ?hy ?_
                case hy => intro w hE; rw [HSe.out] at hE; go_simp; try with_reducible rfl
                try simp only [Act.put, lT, l0, lS]
                refine tkH 16 (v := ?_) rfl (by kernel_rfl) (fun _ _ _ h => h) (by rfl) HS ?hy ?_
                case hy => intro w hE; rw [HSe.out] at hE; go_simp; try with_reducible rfl
                try simp only [Act.put, lT, l0, lS]
                refine tkH 17 (v := ?_) rfl (by kernel_rfl) (fun _ _ _ h => h) (by rfl) HS ?hy ?_
                case hy => intro w hE; rw [HSe.out] at hE; go_simp; try with_reducible rfl
                try simp only [Act.put, lT, l0, lS]
                refine tkH 18 (v := ?_) rfl (by kernel_rfl) (fun _ _ _ h => h) (by rfl) HS ?hy ?_
                case hy => intro w hE; rw [HSe.out] at hE; go_simp; try with_reducible rfl
                try simp only [Act.put, lT, l0, lS]
                refine tkH 19 (v := ?_) rfl (by kernel_rfl) (fun _ _ _ h => h) (by rfl) HS ?hy ?_
                case hy => intro w hE; rw [HSe.out] at hE; go_simp; try with_reducible rfl
                try simp only [Act.put, lT, l0, lS]
                refine tkH 20 (v := ?_) rfl (by kernel_rfl) (fun _ _ _ h => h) (by rfl) HS ?hy ?_
                case hy => intro w hE; rw [HSe.out] at hE; go_simp; try with_reducible rfl
                try simp only [Act.put, lT, l0, lS]
                try simp only [cq2]
                try simp only [Act.put, lT, l0, lS]
                refine tkH 21 (v := ?_) rfl (by kernel_rfl) (fun _ _ _ h => h) (by rfl) HS ?hy ?_
                case hy => intro w hE; rw [HSe.out] at hE; go_simp; try with_reducible rfl
                try simp only [Act.put, lT, l0, lS]
                refine tkH 22 (v := ?_) rfl (by kernel_rfl) (fun _ _ _ h => h) (by rfl) HS ?hy ?_
                case hy => intro w hE; rw [HSe.out] at hE; go_simp; try with_reducible rfl
                try simp only [Act.put, lT, l0, lS]
                try simp only [Act.put, lT, l0, lS]
                refine tkH 23 (v := ?_) rfl (by kernel_rfl) (fun _ _ _ h => h) (by rfl) HS ?hy ?_
                case hy => intro w hE; rw [HSe.out] at hE; go_simp; try with_reducible rfl
                try simp only [Act.put, lT, l0, lS]
                refine tkH 24 (v := ?_) rfl (by kernel_rfl) (fun _ _ _ h => h) (by rfl) HS ?hy ?_
                case hy => intro w hE; rw [HSe.out] at hE; go_simp; try with_reducible rfl
                try simp only [Act.put, lT, l0, lS]
                refine tkH 25 (v := ?_) rfl (by kernel_rfl) (fun _ _ _ h => h) (by rfl) HS ?hy ?_
                case hy => intro w hE; rw [HSe.out] at hE; go_simp; try with_reducible rfl
                try simp only [Act.put, lT, l0, lS]
                refine tkH 26 (v := ?_) rfl (by kernel_rfl) (fun _ _ _ h => h) (by rfl) HS ?hy ?_
                case hy => intro w hE; rw [HSe.out] at hE; go_simp; try with_reducible rfl
                try simp only [Act.put, lT, l0, lS]
                refine tkH 27 (v := ?_) rfl (by kernel_rfl) (fun _ _ _ h => h) (by rfl) HS ?hy ?_
                case hy => intro w hE; rw [HSe.out] at hE; go_simp; try with_reducible rfl
                try simp only [Act.put, lT, l0, lS]
                refine tkH 28 (v := ?_) rfl (by kernel_rfl) (fun _ _ _ h => h) (by rfl) HS ?hy ?_
                case hy => intro w hE; rw [HSe.out] at hE; go_simp; try with_reducible rfl
                try simp only [Act.put, lT, l0, lS]
                refine tkH 29 (v := ?_) rfl (by kernel_rfl) (fun _ _ _ h => h) (by rfl) HS ?hy ?_
                case hy => intro w hE; rw [HSe.out] at hE; go_simp; try with_reducible rfl
                try simp only [Act.put, lT, l0, lS]
                try simp only [cq3]
                try simp only [Act.put, lT, l0, lS]
                refine tkH 30 (v := ?_) rfl (by kernel_rfl) (fun _ _ _ h => h) (by rfl) HS ?hy ?_
                case hy => intro w hE; rw [HSe.out] at hE; go_simp; try with_reducible rfl
                try simp only [Act.put, lT, l0, lS]
                refine tkH 31 (v := ?_) rfl (by kernel_rfl) (fun _ _ _ h => h) (by rfl) HS ?hy ?_
                case hy => intro w hE; rw [HSe.out] at hE; go_simp; try with_reducible rfl
                try simp only [Act.put, lT, l0, lS]
                try simp only [Act.put, lT, l0, lS]
                refine tkH 32 (v := ?_) rfl (by kernel_rfl) (fun _ _ _ h => h) (by rfl) HS ?hy ?_
                case hy => intro w hE; rw [HSe.out] at hE; go_simp; try with_reducible rfl
                try simp only [Act.put, lT, l0, lS]
                refine tkH 33 (v := ?_) rfl (by kernel_rfl) (fun _ _ _ h => h) (by rfl) HS ?hy ?_
                case hy => intro w hE; rw [HSe.out] at hE; go_simp; try with_reducible rfl
                try simp only [Act.put, lT, l0, lS]
                refine tkH 34 (v := ?_) rfl (by kernel_rfl) (fun _ _ _ h => h) (by rfl) HS ?hy ?_
                case hy => intro w hE; rw [HSe.out] at hE; go_simp; try with_reducible rfl
                try simp only [Act.put, lT, l0, lS]
                refine tkH 35 (v := ?_) rfl (by kernel_rfl) (fun _ _ _ h => h) (by rfl) HS ?hy ?_
                case hy => intro w hE; rw [HSe.out] at hE; go_simp; try with_reducible rfl
                try simp only [Act.put, lT, l0, lS]
                refine tkH 36 (v := ?_) rfl (by kernel_rfl) (fun _ _ _ h => h) (by rfl) HS ?hy ?_
                case hy => intro w hE; rw [HSe.out] at hE; go_simp; try with_reducible rfl
                try simp only [Act.put, lT, l0, lS]
                refine tkH 37 (v := ?_) rfl (by kernel_rfl) (fun _ _ _ h => h) (by rfl) HS ?hy ?_
                case hy => intro w hE; rw [HSe.out] at hE; go_simp; try with_reducible rfl
                try simp only [Act.put, lT, l0, lS]
                refine tkH 38 (v := ?_) rfl (by kernel_rfl) (fun _ _ _ h => h) (by rfl) HS ?hy ?_
                case hy => intro w hE; rw [HSe.out] at hE; go_simp; try with_reducible rfl
                try simp only [Act.put, lT, l0, lS]
                try simp only [Act.put, lT, l0, lS]
                refine skH 39 rfl (by kernel_rfl) (fun _ _ _ h => h) (by rfl) HS ?_
                try simp only [Act.put, lT, l0, lS]
                refine skH 40 rfl (by kernel_rfl) (fun _ _ _ h => h) (by rfl) HS ?_
                try simp only [Act.put, lT, l0, lS]
                refine skH 41 rfl (by kernel_rfl) (fun _ _ _ h => h) (by rfl) HS ?_
                try simp only [Act.put, lT, l0, lS]
                refine skH 42 rfl (by kernel_rfl) (fun _ _ _ h => h) (by rfl) HS ?_
                try simp only [Act.put, lT, l0, lS]
                refine skH 43 rfl (by kernel_rfl) (fun _ _ _ h => h) (by rfl) HS ?_
                try simp only [Act.put, lT, l0, lS]
                refine skH 44 rfl (by kernel_rfl) (fun _ _ _ h => h) (by rfl) HS ?_
                try simp only [Act.put, lT, l0, lS]
                refine skH 45 rfl (by kernel_rfl) (fun _ _ _ h => h) (by rfl) HS ?_
                try simp only [Act.put, lT, l0, lS]
                refine skH 46 rfl (by kernel_rfl) (fun _ _ _ h => h) (by rfl) HS ?_
                try simp only [Act.put, lT, l0, lS]
                try simp only [Act.put, lT, l0, lS]
                refine tkH 47 (v := ?_) rfl (by kernel_rfl) (fun _ _ _ h => h) (by rfl) HS ?hy ?_
                case hy => intro w hE; rw [HSe.out] at hE; go_simp; try with_reducible rfl
                try simp only [Act.put, lT, l0, lS]
                refine wpAnyH_done (by kernel_rfl) ?_ _
                go_wp2_with (fail)
                go_region
                go_wp2_with (fail)
                go_ret2
                rw [hR]
                exact ⟨by first | rfl | (rw [e4]; rfl), (((Keeps.refl _ w).alloc _).drew).drew, _, _, H.out.below ((((Below.refl _ w).alloc (Nat.le_refl _) _).drew).drew), fun k e => .inl e⟩
              case' false =>
                cases cq5 : (m.off == (s.n : Int))
                case' false =>
                  have hR : s.take m k qs = s := by simp [RcM.take, RcM.fits, hk5, h0, cq5]
                  go_enter Tryz.func9, Tryz.ntmps9
                  go_wp2_with (fail)
                  obtain ⟨S, hS⟩ : ∃ S : World → Prop, S = fun W => (W.cell? ⟨w.heap.size, 1, none⟩ = some (.int .i64 m.fr) ∧ W.cell? ⟨w.heap.size, 4, none⟩ = some (.int .i64 m.ix) ∧ W.cell? ⟨w.heap.size, 5, none⟩ = some (.int .i64 m.tm) ∧ W.cell? ⟨w.heap.size, 12, none⟩ = some (.int .i64 m.off) ∧ W.cell? ⟨w.heap.size, 13, none⟩ = some (.slice A k c)) ∧ (W.cell? ⟨b, 0, none⟩ = some (.bool s.bg) ∧ W.cell? ⟨b, 1, none⟩ = some (.int .i64 s.fr) ∧ W.cell? ⟨b, 2, none⟩ = some (.int .i64 s.ix) ∧ W.cell? ⟨b, 3, none⟩ = some (.int .i64 s.tm) ∧ W.cell? ⟨b, 5, none⟩ = some (.slice A0 s.n c0') ∧ W.cell? ⟨b, 6, none⟩ = some (.bool s.done)) := ⟨_, rfl⟩
                  have hbx : Blk (w.alloc (.cells #[.int .i64 m.kind, .int .i64 m.fr, m.dst, m.term, .int .i64 m.ix, .int .i64 m.tm, m.commit, m.round, m.ok, .bool m.done, m.ents, .slice A2 k2 c2, .int .i64 m.off, .slice A k c] 51)) w.heap.size 51 #[.int .i64 m.kind, .int .i64 m.fr, m.dst, m.term, .int .i64 m.ix, .int .i64 m.tm, m.commit, m.round, m.ok, .bool m.done, m.ents, .slice A2 k2 c2, .int .i64 m.off, .slice A k c] := Blk.new _ _ _
                  have hbb := H.out.blk.alloc (.cells #[.int .i64 m.kind, .int .i64 m.fr, m.dst, m.term, .int .i64 m.ix, .int .i64 m.tm, m.commit, m.round, m.ok, .bool m.done, m.ents, .slice A2 k2 c2, .int .i64 m.off, .slice A k c] 51)
                  have hSB : ∀ W, Blk W w.heap.size 51 #[.int .i64 m.kind, .int .i64 m.fr, m.dst, m.term, .int .i64 m.ix, .int .i64 m.tm, m.commit, m.round, m.ok, .bool m.done, m.ents, .slice A2 k2 c2, .int .i64 m.off, .slice A k c] → Blk W b 30 (rfCs s.bg s.fr s.ix s.tm mem (.slice A0 s.n c0') s.done) → S W := fun W hb hb2 => by
                    rw [hS]
                    exact ⟨⟨hb.cell 1, hb.cell 4, hb.cell 5, hb.cell 12, hb.cell 13⟩, ⟨hb2.cell 0, hb2.cell 1, hb2.cell 2, hb2.cell 3, hb2.cell 5, hb2.cell 6⟩⟩
                  have HSB := Lib.hid hSB
                  have HSe := Lib.hid hS
                  have HS := hSB _ hbx.drew hbb.drew
                  have HS0 := HSe.out ▸ HS
                  clear hSB hS
                  refine wp_region_held (S := S) (by kernel_rfl) ?_
                  change wpAnyH _ _ _ _ _ _ _ _ (World.drew _)
                  try simp only [Act.put, lT, l0, lS]
                  refine tkH 0 (v := ?_) rfl (by kernel_rfl) (fun _ _ _ h => h) (by rfl) HS ?hy ?_
                  case hy => intro w hE; rw [HSe.out] at hE; go_simp; try with_reducible rfl
                  try simp only [Act.put, lT, l0, lS]
                  refine tkH 1 (v := ?_) rfl (by kernel_rfl) (fun _ _ _ h => h) (by rfl) HS ?hy ?_
                  case hy => intro w hE; rw [HSe.out] at hE; go_simp; try with_reducible rfl
                  try simp only [Act.put, lT, l0, lS]
                  refine tkH 2 (v := ?_) rfl (by kernel_rfl) (fun _ _ _ h => h) (by rfl) HS ?hy ?_
                  case hy => intro w hE; rw [HSe.out] at hE; go_simp; try with_reducible rfl
                  try simp only [Act.put, lT, l0, lS]
                  refine tkH 3 (v := ?_) rfl (by kernel_rfl) (fun _ _ _ h => h) (by rfl) HS ?hy ?_
                  case hy => intro w hE; rw [HSe.out] at hE; go_simp; try with_reducible rfl
                  try simp only [Act.put, lT, l0, lS]
                  refine tkH 4 (v := ?_) rfl (by kernel_rfl) (fun _ _ _ h => h) (by rfl) HS ?hy ?_
                  case hy => intro w hE; rw [HSe.out] at hE; go_simp; try with_reducible rfl
                  try simp only [Act.put, lT, l0, lS]
                  try simp only [Act.put, lT, l0, lS]
                  refine tkH 5 (v := ?_) rfl (by kernel_rfl) (fun _ _ _ h => h) (by rfl) HS ?hy ?_
                  case hy => intro w hE; rw [HSe.out] at hE; go_simp; try with_reducible rfl
                  try simp only [Act.put, lT, l0, lS]
                  refine tkH 6 (v := ?_) rfl (by kernel_rfl) (fun _ _ _ h => h) (by rfl) HS ?hy ?_
                  case hy => intro w hE; rw [HSe.out] at hE; go_simp; try with_reducible rfl
                  try simp only [Act.put, lT, l0, lS]
                  refine tkH 7 (v := ?_) rfl (by kernel_rfl) (fun _ _ _ h => h) (by rfl) HS ?hy ?_
                  case hy => intro w hE; rw [HSe.out] at hE; go_simp; try with_reducible rfl
                  try simp only [Act.put, lT, l0, lS]
                  refine tkH 8 (v := ?_) rfl (by kernel_rfl) (fun _ _ _ h => h) (by rfl) HS ?hy ?_
                  case hy => intro w hE; rw [HSe.out] at hE; go_simp; try with_reducible rfl
                  try simp only [Act.put, lT, l0, lS]
                  refine tkH 9 (v := ?_) rfl (by kernel_rfl) (fun _ _ _ h => h) (by rfl) HS ?hy ?_
                  case hy => intro w hE; rw [HSe.out] at hE; go_simp; try with_reducible rfl
                  try simp only [Act.put, lT, l0, lS]
                  refine tkH 10 (v := ?_) rfl (by kernel_rfl) (fun _ _ _ h => h) (by rfl) HS ?hy ?_
                  case hy => intro w hE; rw [HSe.out] at hE; go_simp; try with_reducible rfl
                  try simp only [Act.put, lT, l0, lS]
                  refine tkH 11 (v := ?_) rfl (by kernel_rfl) (fun _ _ _ h => h) (by rfl) HS ?hy ?_
                  case hy => intro w hE; rw [HSe.out] at hE; go_simp; try with_reducible rfl
                  try simp only [Act.put, lT, l0, lS]
                  try simp only [cq1]
                  try simp only [Act.put, lT, l0, lS]
                  refine tkH 12 (v := ?_) rfl (by kernel_rfl) (fun _ _ _ h => h) (by rfl) HS ?hy ?_
                  case hy => intro w hE; rw [HSe.out] at hE; go_simp; try with_reducible rfl
                  try simp only [Act.put, lT, l0, lS]
                  refine tkH 13 (v := ?_) rfl (by kernel_rfl) (fun _ _ _ h => h) (by rfl) HS ?hy ?_
                  case hy => intro w hE; rw [HSe.out] at hE; go_simp; try with_reducible rfl
                  try simp only [Act.put, lT, l0, lS]
                  try simp only [Act.put, lT, l0, lS]
                  refine tkH 14 (v := ?_) rfl (by kernel_rfl) (fun _ _ _ h => h) (by rfl) HS ?hy ?_
                  case hy => intro w hE; rw [HSe.out] at hE; go_simp; try with_reducible rfl
                  try simp only [Act.put, lT, l0, lS]
                  refine tkH 15 (v := ?_) rfl (by kernel_rfl) (fun _ _ _ h => h) (by rfl) HS ?hy ?_
                  case hy => intro w hE; rw [HSe.out] at hE; go_simp; try with_reducible rfl
                  try simp only [Act.put, lT, l0, lS]
                  refine tkH 16 (v := ?_) rfl (by kernel_rfl) (fun _ _ _ h => h) (by rfl) HS ?hy ?_
                  case hy => intro w hE; rw [HSe.out] at hE; go_simp; try with_reducible rfl
                  try simp only [Act.put, lT, l0, lS]
                  refine tkH 17 (v := ?_) rfl (by kernel_rfl) (fun _ _ _ h => h) (by rfl) HS ?hy ?_
                  case hy => intro w hE; rw [HSe.out] at hE; go_simp; try with_reducible rfl
                  try simp only [Act.put, lT, l0, lS]
                  refine tkH 18 (v := ?_) rfl (by kernel_rfl) (fun _ _ _ h => h) (by rfl) HS ?hy ?_
                  case hy => intro w hE; rw [HSe.out] at hE; go_simp; try with_reducible rfl
                  try simp only [Act.put, lT, l0, lS]
                  refine tkH 19 (v := ?_) rfl (by kernel_rfl) (fun _ _ _ h => h) (by rfl) HS ?hy ?_
                  case hy => intro w hE; rw [HSe.out] at hE; go_simp; try with_reducible rfl
                  try simp only [Act.put, lT, l0, lS]
                  refine tkH 20 (v := ?_) rfl (by kernel_rfl) (fun _ _ _ h => h) (by rfl) HS ?hy ?_
                  case hy => intro w hE; rw [HSe.out] at hE; go_simp; try with_reducible rfl
                  try simp only [Act.put, lT, l0, lS]
                  try simp only [cq2]
                  try simp only [Act.put, lT, l0, lS]
                  refine tkH 21 (v := ?_) rfl (by kernel_rfl) (fun _ _ _ h => h) (by rfl) HS ?hy ?_
                  case hy => intro w hE; rw [HSe.out] at hE; go_simp; try with_reducible rfl
                  try simp only [Act.put, lT, l0, lS]
                  refine tkH 22 (v := ?_) rfl (by kernel_rfl) (fun _ _ _ h => h) (by rfl) HS ?hy ?_
                  case hy => intro w hE; rw [HSe.out] at hE; go_simp; try with_reducible rfl
                  try simp only [Act.put, lT, l0, lS]
                  try simp only [Act.put, lT, l0, lS]
                  refine tkH 23 (v := ?_) rfl (by kernel_rfl) (fun _ _ _ h => h) (by rfl) HS ?hy ?_
                  case hy => intro w hE; rw [HSe.out] at hE; go_simp; try with_reducible rfl
                  try simp only [Act.put, lT, l0, lS]
                  refine tkH 24 (v := ?_) rfl (by kernel_rfl) (fun _ _ _ h => h) (by rfl) HS ?hy ?_
                  case hy => intro w hE; rw [HSe.out] at hE; go_simp; try with_reducible rfl
                  try simp only [Act.put, lT, l0, lS]
                  refine tkH 25 (v := ?_) rfl (by kernel_rfl) (fun _ _ _ h => h) (by rfl) HS ?hy ?_
                  case hy => intro w hE; rw [HSe.out] at hE; go_simp; try with_reducible rfl
                  try simp only [Act.put, lT, l0, lS]
                  refine tkH 26 (v := ?_) rfl (by kernel_rfl) (fun _ _ _ h => h) (by rfl) HS ?hy ?_
                  case hy => intro w hE; rw [HSe.out] at hE; go_simp; try with_reducible rfl
                  try simp only [Act.put, lT, l0, lS]
                  refine tkH 27 (v := ?_) rfl (by kernel_rfl) (fun _ _ _ h => h) (by rfl) HS ?hy ?_
                  case hy => intro w hE; rw [HSe.out] at hE; go_simp; try with_reducible rfl
                  try simp only [Act.put, lT, l0, lS]
                  refine tkH 28 (v := ?_) rfl (by kernel_rfl) (fun _ _ _ h => h) (by rfl) HS ?hy ?_
                  case hy => intro w hE; rw [HSe.out] at hE; go_simp; try with_reducible rfl
                  try simp only [Act.put, lT, l0, lS]
                  refine tkH 29 (v := ?_) rfl (by kernel_rfl) (fun _ _ _ h => h) (by rfl) HS ?hy ?_
                  case hy => intro w hE; rw [HSe.out] at hE; go_simp; try with_reducible rfl
                  try simp only [Act.put, lT, l0, lS]
                  try simp only [cq3]
                  try simp only [Act.put, lT, l0, lS]
                  refine tkH 30 (v := ?_) rfl (by kernel_rfl) (fun _ _ _ h => h) (by rfl) HS ?hy ?_
                  case hy => intro w hE; rw [HSe.out] at hE; go_simp; try with_reducible rfl
                  try simp only [Act.put, lT, l0, lS]
                  refine tkH 31 (v := ?_) rfl (by kernel_rfl) (fun _ _ _ h => h) (by rfl) HS ?hy ?_
                  case hy => intro w hE; rw [HSe.out] at hE; go_simp; try with_reducible rfl
                  try simp only [Act.put, lT, l0, lS]
                  try simp only [Act.put, lT, l0, lS]
                  refine tkH 32 (v := ?_) rfl (by kernel_rfl) (fun _ _ _ h => h) (by rfl) HS ?hy ?_
                  case hy => intro w hE; rw [HSe.out] at hE; go_simp; try with_reducible rfl
                  try simp only [Act.put, lT, l0, lS]
                  refine tkH 33 (v := ?_) rfl (by kernel_rfl) (fun _ _ _ h => h) (by rfl) HS ?hy ?_
                  case hy => intro w hE; rw [HSe.out] at hE; go_simp; try with_reducible rfl
                  try simp only [Act.put, lT, l0, lS]
                  refine tkH 34 (v := ?_) rfl (by kernel_rfl) (fun _ _ _ h => h) (by rfl) HS ?hy ?_
                  case hy => intro w hE; rw [HSe.out] at hE; go_simp; try with_reducible rfl
                  try simp only [Act.put, lT, l0, lS]
                  refine tkH 35 (v := ?_) rfl (by kernel_rfl) (fun _ _ _ h => h) (by rfl) HS ?hy ?_
                  case hy => intro w hE; rw [HSe.out] at hE; go_simp; try with_reducible rfl
                  try simp only [Act.put, lT, l0, lS]
                  refine tkH 36 (v := ?_) rfl (by kernel_rfl) (fun _ _ _ h => h) (by rfl) HS ?hy ?_
                  case hy => intro w hE; rw [HSe.out] at hE; go_simp; try with_reducible rfl
                  try simp only [Act.put, lT, l0, lS]
                  refine tkH 37 (v := ?_) rfl (by kernel_rfl) (fun _ _ _ h => h) (by rfl) HS ?hy ?_
                  case hy => intro w hE; rw [HSe.out] at hE; go_simp; try with_reducible rfl
                  try simp only [Act.put, lT, l0, lS]
                  refine tkH 38 (v := ?_) rfl (by kernel_rfl) (fun _ _ _ h => h) (by rfl) HS ?hy ?_
                  case hy => intro w hE; rw [HSe.out] at hE; go_simp; try with_reducible rfl
                  try simp only [Act.put, lT, l0, lS]
                  try simp only [Act.put, lT, l0, lS]
                  refine tkH 39 (v := ?_) rfl (by kernel_rfl) (fun _ _ _ h => h) (by rfl) HS ?hy ?_
                  case hy => intro w hE; rw [HSe.out] at hE; go_simp; try with_reducible rfl
                  try simp only [Act.put, lT, l0, lS]
                  refine tkH 40 (v := ?_) rfl (by kernel_rfl) (fun _ _ _ h => h) (by rfl) HS ?hy ?_
                  case hy => intro w hE; rw [HSe.out] at hE; go_simp; try with_reducible rfl
                  try simp only [Act.put, lT, l0, lS]
                  refine tkH 41 (v := ?_) rfl (by kernel_rfl) (fun _ _ _ h => h) (by rfl) HS ?hy ?_
                  case hy => intro w hE; rw [HSe.out] at hE; go_simp; try with_reducible rfl
                  try simp only [Act.put, lT, l0, lS]
                  refine tkH 42 (v := ?_) rfl (by kernel_rfl) (fun _ _ _ h => h) (by rfl) HS ?hy ?_
                  case hy => intro w hE; rw [HSe.out] at hE; go_simp; try with_reducible rfl
                  try simp only [Act.put, lT, l0, lS]
                  refine tkH 43 (v := ?_) rfl (by kernel_rfl) (fun _ _ _ h => h) (by rfl) HS ?hy ?_
                  case hy => intro w hE; rw [HSe.out] at hE; go_simp; try with_reducible rfl
                  try simp only [Act.put, lT, l0, lS]
                  refine tkH 44 (v := ?_) rfl (by kernel_rfl) (fun _ _ _ h => h) (by rfl) HS ?hy ?_
                  case hy => intro w hE; rw [HSe.out] at hE; go_simp; try with_reducible rfl
                  try simp only [Act.put, lT, l0, lS]
                  refine tkH 45 (v := ?_) rfl (by kernel_rfl) (fun _ _ _ h => h) (by rfl) HS ?hy ?_
                  case hy => intro w hE; rw [HSe.out] at hE; go_simp; try with_reducible rfl
                  try simp only [Act.put, lT, l0, lS]
                  refine tkH 46 (v := ?_) rfl (by kernel_rfl) (fun _ _ _ h => h) (by rfl) HS ?hy ?_
                  case hy => intro w hE; rw [HSe.out] at hE; go_simp; try with_reducible rfl
                  try simp only [Act.put, lT, l0, lS]
                  try simp only [cq5]
                  try simp only [Act.put, lT, l0, lS]
                  refine tkH 47 (v := ?_) rfl (by kernel_rfl) (fun _ _ _ h => h) (by rfl) HS ?hy ?_
                  case hy => intro w hE; rw [HSe.out] at hE; go_simp; try with_reducible rfl
                  try simp only [Act.put, lT, l0, lS]
                  refine wpAnyH_done (by kernel_rfl) ?_ _
                  go_wp2_with (fail)
                  go_region
                  go_wp2_with (fail)
                  go_ret2
                  rw [hR]
                  exact ⟨by first | rfl | (rw [e4]; rfl), (((Keeps.refl _ w).alloc _).drew).drew, _, _, H.out.below ((((Below.refl _ w).alloc (Nat.le_refl _) _).drew).drew), fun k e => .inl e⟩
                case' true =>
                  have hR : s.take m k qs = { s with n := s.n + k, xs := s.xs ++ qs, done := m.done } := by simp [RcM.take, RcM.fits, hk5, h0, cq0, e1, e2, e3, e4, cq5]
                  go_enter Tryz.func9, Tryz.ntmps9
                  go_wp2_with (fail)
                  obtain ⟨S, hS⟩ : ∃ S : World → Prop, S = fun W => (W.cell? ⟨w.heap.size, 1, none⟩ = some (.int .i64 m.fr) ∧ W.cell? ⟨w.heap.size, 4, none⟩ = some (.int .i64 m.ix) ∧ W.cell? ⟨w.heap.size, 5, none⟩ = some (.int .i64 m.tm) ∧ W.cell? ⟨w.heap.size, 12, none⟩ = some (.int .i64 m.off) ∧ W.cell? ⟨w.heap.size, 13, none⟩ = some (.slice A k c)) ∧ (W.cell? ⟨b, 0, none⟩ = some (.bool s.bg) ∧ W.cell? ⟨b, 1, none⟩ = some (.int .i64 s.fr) ∧ W.cell? ⟨b, 2, none⟩ = some (.int .i64 s.ix) ∧ W.cell? ⟨b, 3, none⟩ = some (.int .i64 s.tm) ∧ W.cell? ⟨b, 5, none⟩ = some (.slice A0 s.n c0') ∧ W.cell? ⟨b, 6, none⟩ = some (.bool s.done)) := ⟨_, rfl⟩
                  have hbx : Blk (w.alloc (.cells #[.int .i64 m.kind, .int .i64 m.fr, m.dst, m.term, .int .i64 m.ix, .int .i64 m.tm, m.commit, m.round, m.ok, .bool m.done, m.ents, .slice A2 k2 c2, .int .i64 m.off, .slice A k c] 51)) w.heap.size 51 #[.int .i64 m.kind, .int .i64 m.fr, m.dst, m.term, .int .i64 m.ix, .int .i64 m.tm, m.commit, m.round, m.ok, .bool m.done, m.ents, .slice A2 k2 c2, .int .i64 m.off, .slice A k c] := Blk.new _ _ _
                  have hbb := H.out.blk.alloc (.cells #[.int .i64 m.kind, .int .i64 m.fr, m.dst, m.term, .int .i64 m.ix, .int .i64 m.tm, m.commit, m.round, m.ok, .bool m.done, m.ents, .slice A2 k2 c2, .int .i64 m.off, .slice A k c] 51)
                  have hSB : ∀ W, Blk W w.heap.size 51 #[.int .i64 m.kind, .int .i64 m.fr, m.dst, m.term, .int .i64 m.ix, .int .i64 m.tm, m.commit, m.round, m.ok, .bool m.done, m.ents, .slice A2 k2 c2, .int .i64 m.off, .slice A k c] → Blk W b 30 (rfCs s.bg s.fr s.ix s.tm mem (.slice A0 s.n c0') s.done) → S W := fun W hb hb2 => by
                    rw [hS]
                    exact ⟨⟨hb.cell 1, hb.cell 4, hb.cell 5, hb.cell 12, hb.cell 13⟩, ⟨hb2.cell 0, hb2.cell 1, hb2.cell 2, hb2.cell 3, hb2.cell 5, hb2.cell 6⟩⟩
                  have HSB := Lib.hid hSB
                  have HSe := Lib.hid hS
                  have HS := hSB _ hbx.drew hbb.drew
                  have HS0 := HSe.out ▸ HS
                  clear hSB hS
                  refine wp_region_held (S := S) (by kernel_rfl) ?_
                  change wpAnyH _ _ _ _ _ _ _ _ (World.drew _)
                  try simp only [Act.put, lT, l0, lS]
                  refine tkH 0 (v := ?_) rfl (by kernel_rfl) (fun _ _ _ h => h) (by rfl) HS ?hy ?_
                  case hy => intro w hE; rw [HSe.out] at hE; go_simp; try with_reducible rfl
                  try simp only [Act.put, lT, l0, lS]
                  refine tkH 1 (v := ?_) rfl (by kernel_rfl) (fun _ _ _ h => h) (by rfl) HS ?hy ?_
                  case hy => intro w hE; rw [HSe.out] at hE; go_simp; try with_reducible rfl
                  try simp only [Act.put, lT, l0, lS]
                  refine tkH 2 (v := ?_) rfl (by kernel_rfl) (fun _ _ _ h => h) (by rfl) HS ?hy ?_
                  case hy => intro w hE; rw [HSe.out] at hE; go_simp; try with_reducible rfl
                  try simp only [Act.put, lT, l0, lS]
                  refine tkH 3 (v := ?_) rfl (by kernel_rfl) (fun _ _ _ h => h) (by rfl) HS ?hy ?_
                  case hy => intro w hE; rw [HSe.out] at hE; go_simp; try with_reducible rfl
                  try simp only [Act.put, lT, l0, lS]
                  refine tkH 4 (v := ?_) rfl (by kernel_rfl) (fun _ _ _ h => h) (by rfl) HS ?hy ?_
                  case hy => intro w hE; rw [HSe.out] at hE; go_simp; try with_reducible rfl
                  try simp only [Act.put, lT, l0, lS]
                  try simp only [Act.put, lT, l0, lS]
                  refine tkH 5 (v := ?_) rfl (by kernel_rfl) (fun _ _ _ h => h) (by rfl) HS ?hy ?_
                  case hy => intro w hE; rw [HSe.out] at hE; go_simp; try with_reducible rfl
                  try simp only [Act.put, lT, l0, lS]
                  refine tkH 6 (v := ?_) rfl (by kernel_rfl) (fun _ _ _ h => h) (by rfl) HS ?hy ?_
                  case hy => intro w hE; rw [HSe.out] at hE; go_simp; try with_reducible rfl
                  try simp only [Act.put, lT, l0, lS]
                  refine tkH 7 (v := ?_) rfl (by kernel_rfl) (fun _ _ _ h => h) (by rfl) HS ?hy ?_
                  case hy => intro w hE; rw [HSe.out] at hE; go_simp; try with_reducible rfl
                  try simp only [Act.put, lT, l0, lS]
                  refine tkH 8 (v := ?_) rfl (by kernel_rfl) (fun _ _ _ h => h) (by rfl) HS ?hy ?_
                  case hy => intro w hE; rw [HSe.out] at hE; go_simp; try with_reducible rfl
                  try simp only [Act.put, lT, l0, lS]
                  refine tkH 9 (v := ?_) rfl (by kernel_rfl) (fun _ _ _ h => h) (by rfl) HS ?hy ?_
                  case hy => intro w hE; rw [HSe.out] at hE; go_simp; try with_reducible rfl
                  try simp only [Act.put, lT, l0, lS]
                  refine tkH 10 (v := ?_) rfl (by kernel_rfl) (fun _ _ _ h => h) (by rfl) HS ?hy ?_
                  case hy => intro w hE; rw [HSe.out] at hE; go_simp; try with_reducible rfl
                  try simp only [Act.put, lT, l0, lS]
                  refine tkH 11 (v := ?_) rfl (by kernel_rfl) (fun _ _ _ h => h) (by rfl) HS ?hy ?_
                  case hy => intro w hE; rw [HSe.out] at hE; go_simp; try with_reducible rfl
                  try simp only [Act.put, lT, l0, lS]
                  try simp only [cq1]
                  try simp only [Act.put, lT, l0, lS]
                  refine tkH 12 (v := ?_) rfl (by kernel_rfl) (fun _ _ _ h => h) (by rfl) HS ?hy ?_
                  case hy => intro w hE; rw [HSe.out] at hE; go_simp; try with_reducible rfl
                  try simp only [Act.put, lT, l0, lS]
                  refine tkH 13 (v := ?_) rfl (by kernel_rfl) (fun _ _ _ h => h) (by rfl) HS ?hy ?_
                  case hy => intro w hE; rw [HSe.out] at hE; go_simp; try with_reducible rfl
                  try simp only [Act.put, lT, l0, lS]
                  try simp only [Act.put, lT, l0, lS]
                  refine tkH 14 (v := ?_) rfl (by kernel_rfl) (fun _ _ _ h => h) (by rfl) HS ?hy ?_
                  case hy => intro w hE; rw [HSe.out] at hE; go_simp; try with_reducible rfl
                  try simp only [Act.put, lT, l0, lS]
                  refine tkH 15 (v := ?_) rfl (by kernel_rfl) (fun _ _ _ h => h) (by rfl) HS ?hy ?_
                  case hy => intro w hE; rw [HSe.out] at hE; go_simp; try with_reducible rfl
                  try simp only [Act.put, lT, l0, lS]
                  refine tkH 16 (v := ?_) rfl (by kernel_rfl) (fun _ _ _ h => h) (by rfl) HS ?hy ?_
                  case hy => intro w hE; rw [HSe.out] at hE; go_simp; try with_reducible rfl
                  try simp only [Act.put, lT, l0, lS]
                  refine tkH 17 (v := ?_) rfl (by kernel_rfl) (fun _ _ _ h => h) (by rfl) HS ?hy ?_
                  case hy => intro w hE; rw [HSe.out] at hE; go_simp; try with_reducible rfl
                  try simp only [Act.put, lT, l0, lS]
                  refine tkH 18 (v := ?_) rfl (by kernel_rfl) (fun _ _ _ h => h) (by rfl) HS ?hy ?_
                  case hy => intro w hE; rw [HSe.out] at hE; go_simp; try with_reducible rfl
                  try simp only [Act.put, lT, l0, lS]
                  refine tkH 19 (v := ?_) rfl (by kernel_rfl) (fun _ _ _ h => h) (by rfl) HS ?hy ?_
                  case hy => intro w hE; rw [HSe.out] at hE; go_simp; try with_reducible rfl
                  try simp only [Act.put, lT, l0, lS]
                  refine tkH 20 (v := ?_) rfl (by kernel_rfl) (fun _ _ _ h => h) (by rfl) HS ?hy ?_
                  case hy => intro w hE; rw [HSe.out] at hE; go_simp; try with_reducible rfl
                  try simp only [Act.put, lT, l0, lS]
                  try simp only [cq2]
                  try simp only [Act.put, lT, l0, lS]
                  refine tkH 21 (v := ?_) rfl (by kernel_rfl) (fun _ _ _ h => h) (by rfl) HS ?hy ?_
                  case hy => intro w hE; rw [HSe.out] at hE; go_simp; try with_reducible rfl
                  try simp only [Act.put, lT, l0, lS]
                  refine tkH 22 (v := ?_) rfl (by kernel_rfl) (fun _ _ _ h => h) (by rfl) HS ?hy ?_
                  case hy => intro w hE; rw [HSe.out] at hE; go_simp; try with_reducible rfl
                  try simp only [Act.put, lT, l0, lS]
                  try simp only [Act.put, lT, l0, lS]
                  refine tkH 23 (v := ?_) rfl (by kernel_rfl) (fun _ _ _ h => h) (by rfl) HS ?hy ?_
                  case hy => intro w hE; rw [HSe.out] at hE; go_simp; try with_reducible rfl
                  try simp only [Act.put, lT, l0, lS]
                  refine tkH 24 (v := ?_) rfl (by kernel_rfl) (fun _ _ _ h => h) (by rfl) HS ?hy ?_
                  case hy => intro w hE; rw [HSe.out] at hE; go_simp; try with_reducible rfl
                  try simp only [Act.put, lT, l0, lS]
                  refine tkH 25 (v := ?_) rfl (by kernel_rfl) (fun _ _ _ h => h) (by rfl) HS ?hy ?_
                  case hy => intro w hE; rw [HSe.out] at hE; go_simp; try with_reducible rfl
                  try simp only [Act.put, lT, l0, lS]
                  refine tkH 26 (v := ?_) rfl (by kernel_rfl) (fun _ _ _ h => h) (by rfl) HS ?hy ?_
                  case hy => intro w hE; rw [HSe.out] at hE; go_simp; try with_reducible rfl
                  try simp only [Act.put, lT, l0, lS]
                  refine tkH 27 (v := ?_) rfl (by kernel_rfl) (fun _ _ _ h => h) (by rfl) HS ?hy ?_
                  case hy => intro w hE; rw [HSe.out] at hE; go_simp; try with_reducible rfl
                  try simp only [Act.put, lT, l0, lS]
                  refine tkH 28 (v := ?_) rfl (by kernel_rfl) (fun _ _ _ h => h) (by rfl) HS ?hy ?_
                  case hy => intro w hE; rw [HSe.out] at hE; go_simp; try with_reducible rfl
                  try simp only [Act.put, lT, l0, lS]
                  refine tkH 29 (v := ?_) rfl (by kernel_rfl) (fun _ _ _ h => h) (by rfl) HS ?hy ?_
                  case hy => intro w hE; rw [HSe.out] at hE; go_simp; try with_reducible rfl
                  try simp only [Act.put, lT, l0, lS]
                  try simp only [cq3]
                  try simp only [Act.put, lT, l0, lS]
                  refine tkH 30 (v := ?_) rfl (by kernel_rfl) (fun _ _ _ h => h) (by rfl) HS ?hy ?_
                  case hy => intro w hE; rw [HSe.out] at hE; go_simp; try with_reducible rfl
                  try simp only [Act.put, lT, l0, lS]
                  refine tkH 31 (v := ?_) rfl (by kernel_rfl) (fun _ _ _ h => h) (by rfl) HS ?hy ?_
                  case hy => intro w hE; rw [HSe.out] at hE; go_simp; try with_reducible rfl
                  try simp only [Act.put, lT, l0, lS]
                  try simp only [Act.put, lT, l0, lS]
                  refine tkH 32 (v := ?_) rfl (by kernel_rfl) (fun _ _ _ h => h) (by rfl) HS ?hy ?_
                  case hy => intro w hE; rw [HSe.out] at hE; go_simp; try with_reducible rfl
                  try simp only [Act.put, lT, l0, lS]
                  refine tkH 33 (v := ?_) rfl (by kernel_rfl) (fun _ _ _ h => h) (by rfl) HS ?hy ?_
                  case hy => intro w hE; rw [HSe.out] at hE; go_simp; try with_reducible rfl
                  try simp only [Act.put, lT, l0, lS]
                  refine tkH 34 (v := ?_) rfl (by kernel_rfl) (fun _ _ _ h => h) (by rfl) HS ?hy ?_
                  case hy => intro w hE; rw [HSe.out] at hE; go_simp; try with_reducible rfl
                  try simp only [Act.put, lT, l0, lS]
                  refine tkH 35 (v := ?_) rfl (by kernel_rfl) (fun _ _ _ h => h) (by rfl) HS ?hy ?_
                  case hy => intro w hE; rw [HSe.out] at hE; go_simp; try with_reducible rfl
                  try simp only [Act.put, lT, l0, lS]
                  refine tkH 36 (v := ?_) rfl (by kernel_rfl) (fun _ _ _ h => h) (by rfl) HS ?hy ?_
                  case hy => intro w hE; rw [HSe.out] at hE; go_simp; try with_reducible rfl
                  try simp only [Act.put, lT, l0, lS]
                  refine tkH 37 (v := ?_) rfl (by kernel_rfl) (fun _ _ _ h => h) (by rfl) HS ?hy ?_
                  case hy => intro w hE; rw [HSe.out] at hE; go_simp; try with_reducible rfl
                  try simp only [Act.put, lT, l0, lS]
                  refine tkH 38 (v := ?_) rfl (by kernel_rfl) (fun _ _ _ h => h) (by rfl) HS ?hy ?_
                  case hy => intro w hE; rw [HSe.out] at hE; go_simp; try with_reducible rfl
                  try simp only [Act.put, lT, l0, lS]
                  try simp only [Act.put, lT, l0, lS]
                  refine tkH 39 (v := ?_) rfl (by kernel_rfl) (fun _ _ _ h => h) (by rfl) HS ?hy ?_
                  case hy => intro w hE; rw [HSe.out] at hE; go_simp; try with_reducible rfl
                  try simp only [Act.put, lT, l0, lS]
                  refine tkH 40 (v := ?_) rfl (by kernel_rfl) (fun _ _ _ h => h) (by rfl) HS ?hy ?_
                  case hy => intro w hE; rw [HSe.out] at hE; go_simp; try with_reducible rfl
                  try simp only [Act.put, lT, l0, lS]
                  refine tkH 41 (v := ?_) rfl (by kernel_rfl) (fun _ _ _ h => h) (by rfl) HS ?hy ?_
                  case hy => intro w hE; rw [HSe.out] at hE; go_simp; try with_reducible rfl
                  try simp only [Act.put, lT, l0, lS]
                  refine tkH 42 (v := ?_) rfl (by kernel_rfl) (fun _ _ _ h => h) (by rfl) HS ?hy ?_
                  case hy => intro w hE; rw [HSe.out] at hE; go_simp; try with_reducible rfl
                  try simp only [Act.put, lT, l0, lS]
                  refine tkH 43 (v := ?_) rfl (by kernel_rfl) (fun _ _ _ h => h) (by rfl) HS ?hy ?_
                  case hy => intro w hE; rw [HSe.out] at hE; go_simp; try with_reducible rfl
                  try simp only [Act.put, lT, l0, lS]
                  refine tkH 44 (v := ?_) rfl (by kernel_rfl) (fun _ _ _ h => h) (by rfl) HS ?hy ?_
                  case hy => intro w hE; rw [HSe.out] at hE; go_simp; try with_reducible rfl
                  try simp only [Act.put, lT, l0, lS]
                  refine tkH 45 (v := ?_) rfl (by kernel_rfl) (fun _ _ _ h => h) (by rfl) HS ?hy ?_
                  case hy => intro w hE; rw [HSe.out] at hE; go_simp; try with_reducible rfl
                  try simp only [Act.put, lT, l0, lS]
                  refine tkH 46 (v := ?_) rfl (by kernel_rfl) (fun _ _ _ h => h) (by rfl) HS ?hy ?_
                  case hy => intro w hE; rw [HSe.out] at hE; go_simp; try with_reducible rfl
                  try simp only [Act.put, lT, l0, lS]
                  try simp only [cq5]
                  try simp only [Act.put, lT, l0, lS]
                  refine tkH 47 (v := ?_) rfl (by kernel_rfl) (fun _ _ _ h => h) (by rfl) HS ?hy ?_
                  case hy => intro w hE; rw [HSe.out] at hE; go_simp; try with_reducible rfl
                  try simp only [Act.put, lT, l0, lS]
                  refine wpAnyH_done (by kernel_rfl) ?_ _
                  go_wp2_with (fail)
                  have hb0 : Below w.heap.size w (w.alloc (.cells #[.int .i64 m.kind, .int .i64 m.fr, m.dst, m.term, .int .i64 m.ix, .int .i64 m.tm, m.commit, m.round, m.ok, .bool m.done, m.ents, .slice A2 k2 c2, .int .i64 m.off, .slice A k c] 51)).drew.drew := (((Below.refl _ w).alloc (Nat.le_refl _) _).drew).drew
                  have hbx0 := hbx.drew.drew
                  have hbb0 := hbb.drew.drew
                  generalize hW0 : (w.alloc (.cells #[.int .i64 m.kind, .int .i64 m.fr, m.dst, m.term, .int .i64 m.ix, .int .i64 m.tm, m.commit, m.round, m.ok, .bool m.done, m.ents, .slice A2 k2 c2, .int .i64 m.off, .slice A k c] 51)).drew.drew = W0 at hb0 hbx0 hbb0
                  have x5 : W0.cell? ⟨b, 5, none⟩ = some (.slice A0 s.n c0') := hbb0.cell 5
                  obtain ⟨S2, hS2⟩ : ∃ S : World → Prop, S = fun W => W.cell? ⟨w.heap.size, 13, none⟩ = some (.slice A k c) := ⟨_, rfl⟩
                  have hSB2 : ∀ W, Blk W w.heap.size 51 #[.int .i64 m.kind, .int .i64 m.fr, m.dst, m.term, .int .i64 m.ix, .int .i64 m.tm, m.commit, m.round, m.ok, .bool m.done, m.ents, .slice A2 k2 c2, .int .i64 m.off, .slice A k c] → S2 W := fun W hb => by
                    rw [hS2]
                    exact hb.cell 13
                  have HSB2 := Lib.hid hSB2
                  have HSe := Lib.hid hS2
                  clear hSB2 hS2 HS
                  refine wp_region_held (S := S2) (by kernel_rfl) ?_
                  change wpAnyH _ _ _ _ _ _ _ _ (World.drew (World.drew _))
                  rw [hW0]
                  have HS := HSB2.out _ hbx0
                  try simp only [Act.put, lT, l0, lS]
                  refine tkH 0 (v := ?_) rfl (by kernel_rfl) (fun _ _ _ h => h) (by rfl) HS ?hy ?_
                  case hy => intro w hE; rw [HSe.out] at hE; go_simp; try with_reducible rfl
                  try simp only [Act.put, lT, l0, lS]
                  refine tkH 1 (v := ?_) rfl (by kernel_rfl) (fun _ _ _ h => h) (by rfl) HS ?hy ?_
                  case hy => intro w hE; rw [HSe.out] at hE; go_simp; try with_reducible rfl
                  try simp only [Act.put, lT, l0, lS]
                  refine tkH 2 (v := ?_) rfl (by kernel_rfl) (fun _ _ _ h => h) (by rfl) HS ?hy ?_
                  case hy => intro w hE; rw [HSe.out] at hE; go_simp; try with_reducible rfl
                  try simp only [Act.put, lT, l0, lS]
                  refine tkH 3 (v := ?_) rfl (by kernel_rfl) (fun _ _ _ h => h) (by rfl) HS ?hy ?_
                  case hy => intro w hE; rw [HSe.out] at hE; go_simp; try with_reducible rfl
                  try simp only [Act.put, lT, l0, lS]
                  refine tkH 6 (v := ?_) rfl (by kernel_rfl) (fun _ _ _ h => h) (by rfl) HS ?hy ?_
                  case hy => intro w hE; rw [HSe.out] at hE; go_simp; try with_reducible rfl
                  try simp only [Act.put, lT, l0, lS]
                  refine tkH 7 (v := ?_) rfl (by kernel_rfl) (fun _ _ _ h => h) (by rfl) HS ?hy ?_
                  case hy => intro w hE; rw [HSe.out] at hE; go_simp; try with_reducible rfl
                  try simp only [Act.put, lT, l0, lS]
                  refine rdH 4 (by kernel_rfl) rfl (fun K hK => ?_)
                  go_simp
                  refine hK _ _ HS ?_
                  clear hK K
                  obtain ⟨i0, hq0, hq1, hq2, hq3⟩ := info_parts infoPr
                  refine rdH 5 (by kernel_rfl) rfl (fun K hK => ?_)
                  refine if_on rfl ?_
                  refine wp_append_sl _ _ 28 rfl W0.heap.size 59 i0 _ 2 32 Tryz.underlying28 hq0 hq1 hq2 hq3 rfl (by decide) (.slice none 0 0) 0 [] rfl (World.ownsRow_nil _ _ _ _) A0 s.n c0' s.xs rfl ((Sl.of_own H.out.row).below hb0) (own_none0 H.out.row) HX (by have := HB.out.2.1; unfold maxLen; omega) (by have := HB.out.2.1; omega) (Nat.le_refl _) ?_
                  intro v1 w1 own1 hg1
                  rw [Nat.zero_add, List.nil_append] at own1
                  obtain ⟨A8, c8, rfl, -⟩ := Sl.of_own own1
                  have hb1 : Below W0.heap.size W0 w1 := (Below.refl _ _).grown hg1 (Nat.le_refl _) (fun k hk => by cases hk)
                  have hbx1 := hbx0.below' hb1
                  have hbb1 := hbb0.below' hb1
                  refine hK _ _ (HSB2.out _ hbx1) ?_
                  clear hK K
                  have HS := HSB2.out _ hbx1
                  refine rdH 8 (by kernel_rfl) rfl (fun K hK => ?_)
                  refine if_on rfl ?_
                  refine wp_append_sl _ _ 28 rfl W0.heap.size 59 i0 _ 2 32 Tryz.underlying28 hq0 hq1 hq2 hq3 rfl (by decide) _ s.n s.xs rfl own1 A k c qs rfl (HQ.out.1.below (bel_then hb0 hb1)) HQ.out.2.1 HB.out.2.2.2.2.1 (by have := HB.out.2.1; have := HB.out.2.2.1; unfold maxLen; omega) (by have := HB.out.2.1; have := HB.out.2.2.1; omega) hb1.size ?_
                  intro v2 w2 own2 hg2
                  obtain ⟨A9, c9, rfl, -⟩ := Sl.of_own own2
                  have hb2 : Below W0.heap.size w1 w2 := (Below.refl _ _).grown hg2 hb1.size (fun k hk => own_ge own1 k hk)
                  have hzw : w.heap.size < W0.heap.size := hbx0.lt
                  have hbx2 := hbx1.below hb2 hzw
                  have hbb2 := hbb1.below hb2 hbb0.lt
                  have HS := HSB2.out _ hbx2
                  refine hK _ _ HS ?_
                  clear hK K
                  try simp only [Act.put, lT, l0, lS]
                  refine tkH 9 (v := ?_) rfl (by kernel_rfl) (fun _ _ _ h => h) (by rfl) HS ?hy ?_
                  case hy => intro w hE; rw [HSe.out] at hE; go_simp; try with_reducible rfl
                  try simp only [Act.put, lT, l0, lS]
                  refine tkH 10 (v := ?_) rfl (by kernel_rfl) (fun _ _ _ h => h) (by rfl) HS ?hy ?_
                  case hy => intro w hE; rw [HSe.out] at hE; go_simp; try with_reducible rfl
                  try simp only [Act.put, lT, l0, lS]
                  have x5 : w2.cell? ⟨b, 5, none⟩ = some (.slice A0 s.n c0') := hbb2.cell 5
                  have f5 : w2.frozen? ⟨b, 5, none⟩ = false := hbb2.frozen 5
                  have hlt2 := hbb2.lt
                  have HO2 := Lib.hid own2
                  clear own1 own2
                  refine rdH 11 (by kernel_rfl) rfl (fun K hK => ?_)
                  go_simp
                  have hne : w.heap.size ≠ b := by omega
                  have hne2 : b ≠ w.heap.size := by omega
                  have hblk3 : Blk (w2.setCell ⟨b, 5, none⟩ (.slice A9 (s.n + k) c9)) b 30 (rfCs s.bg s.fr s.ix s.tm mem (.slice A9 (s.n + k) c9) s.done) := hbb2.set 5 _
                  have hbx3 : Blk (w2.setCell ⟨b, 5, none⟩ (.slice A9 (s.n + k) c9)) w.heap.size 51 _ := hbx2.far (p := ⟨b, 5, none⟩) hne _
                  have hbw2 : Below w.heap.size w w2 := (hb0.trans (hb1.mono hb0.size)).trans (hb2.mono hb0.size)
                  have hkw : Keeps (fun k => k = b) w (w2.setCell ⟨b, 5, none⟩ (.slice A9 (s.n + k) c9)) := (Keeps.of_below (S := fun k => k = b) hbw2).setCell (p := ⟨b, 5, none⟩) (fun _ => rfl) _
                  have hkb : Keeps (fun k => k = b) w2 (w2.setCell ⟨b, 5, none⟩ (.slice A9 (s.n + k) c9)) := (Keeps.refl (fun k => k = b) w2).setCell (p := ⟨b, 5, none⟩) (fun _ => rfl) _
                  generalize w2.setCell ⟨b, 5, none⟩ (.slice A9 (s.n + k) c9) = w3 at hblk3 hbx3 hkw hkb ⊢
                  refine wpAnyH_last hK ?hsl (by kernel_rfl) ?_
                  case hsl => exact HSB2.out _ hbx3
                  clear hK K
                  have e9 : w3.cell? ⟨w.heap.size, 9, none⟩ = some (.bool m.done) := hbx3.cell 9
                  have x6 : w3.cell? ⟨b, 6, none⟩ = some (.bool s.done) := hblk3.cell 6
                  have f6 : w3.frozen? ⟨b, 6, none⟩ = false := hblk3.frozen 6
                  have hlt3 := hblk3.lt
                  have hbx3l := hbx3.lt
                  go_wp2_with (fail)
                  have hblk4 : Blk (w3.setCell ⟨b, 6, none⟩ (.bool m.done)) b 30 (rfCs s.bg s.fr s.ix s.tm mem (.slice A9 (s.n + k) c9) m.done) := hblk3.set 6 _
                  have r5 : (w3.setCell ⟨b, 6, none⟩ (.bool m.done)).cell? ⟨b, 5, none⟩ = some (.slice A9 (s.n + k) c9) := hblk4.cell 5
                  have r6 : (w3.setCell ⟨b, 6, none⟩ (.bool m.done)).cell? ⟨b, 6, none⟩ = some (.bool m.done) := hblk4.cell 6
                  go_region
                  go_wp2_with (fail)
                  go_ret2
                  rw [hR]
                  have ho := HO2.out
                  have hk4 : Keeps (fun k => k = b) w3 (w3.setCell ⟨b, 6, none⟩ (.bool m.done)) := (Keeps.refl (fun k => k = b) w3).setCell (p := ⟨b, 6, none⟩) (fun _ => rfl) _
                  have hfar : (Value.slice A9 (s.n + k) c9).ownBlock ≠ some b := fun e => by have := own_ge ho b e; omega
                  exact ⟨rfl, (hkw.trans hk4 (fun _ _ h => h)).drew, mem, .slice A9 (s.n + k) c9, ⟨hblk4.drew, own_low (own_keeps (S := fun k => k = b) (own_keeps ho hkb (fun k e e2 => hfar (e2 ▸ e))) hk4.drew (fun k e e2 => hfar (e2 ▸ e))) (Nat.le_trans HB.out.1 (Nat.le_of_lt hzw)), H.out.low, hfar⟩, fun k e => .inr (Nat.le_trans (Nat.le_of_lt hzw) (own_ge ho k e))⟩
end Go.Ev
