/-
  A cursor's leaf ahead or behind; Seek; Next, Prev.
-/
import Derived.Test.YtgfmhppkmogdhaaGreatDoorMREvInsert
import Derived.Test.YtgfmhppkmogdhaaGreatDoorMRGwCurs2
set_option linter.unusedVariables false
set_option linter.unusedSimpArgs false
set_option linter.unusedVariables false
set_option linter.unusedSimpArgs false
namespace Go.Ev
open Go.Proofs Go.RowKit

section
variable {p most cnt : Nat} {c : Pc} {M : Store} {all : List Pair} {x : Cc} {root : Int} {w : World} {st : List CStep} {items : List Item} {at' : Int} {on : Bool}

theorem own_pop {w : World} {base z n : Nat} {e : TypeId} {g cap : Nat} {xs : List Value} (h : w.ownsRow base e z (.slice (some ⟨g, 0, none⟩) (n + 1) cap) (n + 1) xs) : w.ownsRow base e z (.slice (some ⟨g, 0, none⟩) n cap) n (xs.take (n * z)) := by
  obtain ⟨h1, ⟨e0, _⟩ | ⟨g', cap', cur, e0, hgb, hheap, hnc, hcm, hcs, hcx⟩⟩ := h
  · cases e0
  · cases e0
    have hle : n * z ≤ (n + 1) * z := Nat.mul_le_mul_right _ (by omega)
    refine ⟨by rw [List.length_take, h1]; omega, .inr ⟨g, cap, cur, rfl, hgb, hheap, by omega, hcm, hcs, ?_⟩⟩
    rw [← hcx, List.take_take, Nat.min_eq_left hle]

theorem cstepsCs_take (st : List CStep) (s : CStep) : (cstepsCs (st ++ [s])).take (st.length * 2) = cstepsCs st := by
  rw [cstepsCs_snoc, ← cstepsCs_len, List.take_left']
  rfl
theorem cstepsCs_set (st : List CStep) (s : CStep) (k : Nat) : (cstepsCs (st ++ [s])).set (st.length * 2 + 1) (.int .i64 (k : Int)) = cstepsCs (st ++ [{ s with at' := k }]) := by
  rw [cstepsCs_snoc, cstepsCs_snoc, List.set_append_right _ _ (by rw [cstepsCs_len]; omega), cstepsCs_len]
  simp [cstepCs]

theorem cur_pop {s : CStep} {b g cap : Nat} {iv : Value} (h : CurAt w p ⟨b, .slice (some ⟨g, 0, none⟩) (st.length + 1) cap, iv⟩ root (st ++ [s]) items at' on) :
    CurAt (w.setCell ⟨b, 2, none⟩ (.slice (some ⟨g, 0, none⟩) st.length cap)) p ⟨b, .slice (some ⟨g, 0, none⟩) st.length cap, iv⟩ root st items at' on ∧ CurK ⟨b, .slice (some ⟨g, 0, none⟩) (st.length + 1) cap, iv⟩ ⟨b, .slice (some ⟨g, 0, none⟩) st.length cap, iv⟩ w (w.setCell ⟨b, 2, none⟩ (.slice (some ⟨g, 0, none⟩) st.length cap)) := by
  have K : Keeps (fun j => j = b) w (w.setCell ⟨b, 2, none⟩ (.slice (some ⟨g, 0, none⟩) st.length cap)) := (Keeps.refl (fun j => j = b) w).setCell (p := ⟨b, 2, none⟩) (fun _ => rfl) _
  have hp := h.path
  rw [List.length_append, List.length_singleton] at hp
  have hpop := own_pop hp
  rw [cstepsCs_take] at hpop
  have hgb : g ≠ b := own_ne h.path h.blk (by decide) g rfl
  refine ⟨⟨h.blk.set 2 _, own_keeps hpop K fun j hj e => ?_, fun s' hs' => ⟨own_keeps (h.kids s' (List.mem_append_left _ hs')).1 K fun j hj e => (h.kids s' (List.mem_append_left _ hs')).2 j hj (.inl e), fun j hj e => (h.kids s' (List.mem_append_left _ hs')).2 j hj e⟩, own_keeps h.its K fun j hj e => h.itn j hj (.inl e), h.itn⟩, K.mono fun _ _ e => .inl e, fun _ e => .inl e, rfl⟩
  simp only [Value.ownBlock, Option.some.injEq] at hj
  exact hgb (hj.trans e)

theorem cur_turn {s : CStep} {b g cap : Nat} {iv : Value} (h : CurAt w p ⟨b, .slice (some ⟨g, 0, none⟩) (st.length + 1) cap, iv⟩ root (st ++ [s]) items at' on) (k : Nat) :
    CurAt (w.setCell ⟨g, st.length * 2 + 1, none⟩ (.int .i64 (k : Int))) p ⟨b, .slice (some ⟨g, 0, none⟩) (st.length + 1) cap, iv⟩ root (st ++ [{ s with at' := k }]) items at' on ∧ CurK ⟨b, .slice (some ⟨g, 0, none⟩) (st.length + 1) cap, iv⟩ ⟨b, .slice (some ⟨g, 0, none⟩) (st.length + 1) cap, iv⟩ w (w.setCell ⟨g, st.length * 2 + 1, none⟩ (.int .i64 (k : Int))) := by
  have K : Keeps (fun j => j = g) w (w.setCell ⟨g, st.length * 2 + 1, none⟩ (.int .i64 (k : Int))) := (Keeps.refl (fun j => j = g) w).setCell (p := ⟨g, st.length * 2 + 1, none⟩) (fun _ => rfl) _
  have hp := h.path
  rw [List.length_append, List.length_singleton] at hp
  obtain ⟨q, _⟩ := World.ownsRow.stored hp (st.length * 2 + 1) (.int .i64 (k : Int))
  rw [cstepsCs_set] at q
  have hgb : g ≠ b := own_ne h.path h.blk (by decide) g rfl
  have hl : (st ++ [{ s with at' := k }]).length = (st ++ [s]).length := by simp
  refine ⟨⟨h.blk.keeps K (fun e => hgb e.symm), by rw [hl, List.length_append, List.length_singleton]; exact q, fun s' hs' => ?_, own_keeps h.its K fun j hj e => h.itn j hj (.inr (by rw [e]; rfl)), h.itn⟩, K.mono fun _ _ e => .inr (by rw [e]; rfl), fun _ e => .inl e, rfl⟩
  rcases List.mem_append.1 hs' with hm | hm
  · exact ⟨own_keeps (h.kids s' (List.mem_append_left _ hm)).1 K fun j hj e => (h.kids s' (List.mem_append_left _ hm)).2 j hj (.inr (by rw [e]; rfl)), (h.kids s' (List.mem_append_left _ hm)).2⟩
  · rw [List.mem_singleton.1 hm]
    exact ⟨own_keeps (h.kids s (by simp)).1 K fun j hj e => (h.kids s (by simp)).2 j hj (.inr (by rw [e]; rfl)), (h.kids s (by simp)).2⟩

/-- What comes of 'over': at the leaf, or nowhere. -/
def OverP (M : Store) (all : List Pair) (p : Nat) (x : Cc) (root : Int) (is : Bool) (at' : Int) (on : Bool) (Q : Bytes → Option Bytes → List Pair → Nat → Prop) (w : World) (e : Ending) (w' : World) : Prop :=
  if is then DownP M all p x root at' on Q w e w' else ResetP p x root w (.bool false) e w'

set_option maxHeartbeats 4000000 in
set_option maxRecDepth 100000 in
theorem overN_ok (lid : Int) (lo : Bytes) (hi : Option Bytes) (ps : List Pair) (off t : Nat) (h : PgOk w p c most M cnt) (hc : CurAt w p x root st items at' on) (hn : ∀ j, c.S p j → ¬ x.S j) (hz : Zip M 2 all 0 lid lo hi ps off (st.map CStep.ghost)) (hlow : Low M all) (ht : off + ps.length = t) :
    Calls Tryz.prog 48 #[ptrV x.b, .int .i64 1, .func (.func 42) #[] #[]] w (OverP M all p x root (decide (t < all.length)) at' on (fun _ _ _ off => off = t) w) := by
  obtain ⟨R, hR⟩ : ∃ R, R = decide (t < all.length) := ⟨_, rfl⟩
  rw [← hR]
  have HR := Lib.hid hR
  clear hR
  go_enter Tryz.func48, Tryz.ntmps48
  go_wp2_with (fail)
  go_loopg [] st.length (fun gk wr => ∃ x1 st1 k1 id1 lo1 hi1 ps1 off1, Hid (st1.length = gk) ∧ CurAt wr p x1 root st1 items at' on ∧ CurK x x1 w wr ∧ Hid (Zip M 2 all k1 id1 lo1 hi1 ps1 off1 (st1.map CStep.ghost)) ∧ Hid (off1 + ps1.length = t))
  case atStart => exact ⟨x, st, 0, lid, lo, hi, ps, off, rfl, hc, CurK.refl _ _, hz, ht⟩
  case round =>
    obtain ⟨x1, st1, k1, id1, lo1, hi1, ps1, off1, hg, hc1, hk1, hz1, ht1⟩ := hrel
    have hpgr : PgOk wr p c most M cnt := h.keeps hk1.keeps hn
    have hn1 := hk1.hn h hn
    have hxb1 := hk1.same
    rcases x1 with ⟨xb, xpv, xiv⟩
    simp only at hxb1
    subst hxb1
    rcases List.eq_nil_or_concat st1 with rfl | ⟨st2, s, hst⟩
    · -- nothing is left of the way
      have hg0 : gk = 0 := by have := hg.out; simpa using this.symm
      obtain ⟨e1, e2⟩ := Zip.top hz1.out
      have hfalse : decide (t < all.length) = false := by
        have := ht1.out
        rw [e1, e2] at this
        simp
        omega
      have hpath := hc1.path
      simp only [List.length_nil] at hpath
      obtain ⟨Ap, dp, hpe, _⟩ := Sl.of_own hpath
      subst hpe
      have c2 : wr.cell? ⟨x.b, 2, none⟩ = some (.slice Ap 0 dp) := hc1.blk.cell 2
      have HRS := Lib.hid (reset_ok hc1)
      have HK := Lib.hid hk1
      have HF := Lib.hid hfalse
      clear hc1 hk1 hz1 ht1 hpgr hn1 hpath h hc hn hz ht hg hlow e1 e2 hfalse
      go_wp2_with (fail)
      go_must (refine HRS.out.mono ?_)
      rintro e w2 ⟨rfl, q1, q2⟩
      go_wp2_with (fail)
      go_ret
      rw [HR.out, HF.out]
      exact ⟨rfl, q1, HK.out.trans q2⟩
    · rw [List.concat_eq_append] at hst
      subst hst
      have hpath := hc1.path
      rw [List.length_append, List.length_singleton] at hpath
      rcases hpath.2 with ⟨_, h0⟩ | ⟨g, cap, cur, hpe, hgb, hheap, hnc, hcm, hcs, hcx⟩
      · cases h0
      simp only at hpe
      subst hpe
      clear hgb hheap hnc hcm hcs hcx
      have hzz := hz1.out
      rw [List.map_append] at hzz
      obtain ⟨hil, hpar, hnx, hpv⟩ := Zip.beside (i := s.at') (L := s.L) hzz
      have hhigh : k1 + (st2.length + 1) < 30 := by
        obtain ⟨id', ids', hT'⟩ := hz1.out.high
        have := hlow _ _ _ hT'
        simpa using this
      obtain ⟨n, hn2⟩ : ∃ n, st2.length = n := ⟨_, rfl⟩
      have hsk := hc1.kids s (by simp)
      have hown := hsk.1
      unfold OwnsC at hown
      obtain ⟨sv, sat, sL⟩ := s
      simp only at hil hpar hnx hpv hown hsk hzz
      obtain ⟨As, ds, rfl, _⟩ := Sl.of_own hown
      obtain ⟨_, _, e0, _, _, hcl⟩ := Sl.of_own hown
      cases e0
      obtain ⟨gs, os, rfl, hgs, hcell⟩ := hcl (by omega)
      -- the last step's cells
      have hpcell : ∀ j u, (cstepsCs (st2 ++ [⟨.slice (some ⟨gs, os, none⟩) sL.length ds, sat, sL⟩]))[j]? = some u → wr.cell? ⟨g, 0 + j, none⟩ = some u := by
        obtain ⟨_, _, e1, _, _, hcl⟩ := Sl.of_own hpath
        cases e1
        obtain ⟨b', o', e2, _, hcl2⟩ := hcl (by omega)
        cases e2
        exact hcl2
      have a0 : wr.cell? ⟨g, n * 2, none⟩ = some (.slice (some ⟨gs, os, none⟩) sL.length ds) := by
        have := hpcell (n * 2) (.slice (some ⟨gs, os, none⟩) sL.length ds) (by rw [cstepsCs_snoc, List.getElem?_append_right (by rw [cstepsCs_len]; omega), cstepsCs_len, hn2]; simp [cstepCs])
        rwa [Nat.zero_add] at this
      have a1 : wr.cell? ⟨g, n * 2 + 1, none⟩ = some (.int .i64 (sat : Int)) := by
        have := hpcell (n * 2 + 1) (.int .i64 (sat : Int)) (by rw [cstepsCs_snoc, List.getElem?_append_right (by rw [cstepsCs_len]; omega), cstepsCs_len, hn2]; simp [cstepCs])
        rwa [Nat.zero_add] at this
      have f1 : wr.frozen? ⟨g, n * 2 + 1, none⟩ = false := World.ownsRow.frozenAt hpath _
      have c2 : wr.cell? ⟨x.b, 2, none⟩ = some (.slice (some ⟨g, 0, none⟩) (n + 1) cap) := by rw [← hn2]; exact hc1.blk.cell 2
      have hcapn : n + 1 ≤ cap := by
        obtain ⟨_, _, e1, hcap, _, _⟩ := Sl.of_own hpath
        cases e1
        omega
      have hcap0 : (n : Int) ≤ (cap : Int) := by omega
      have hw1 : IntKind.i64.wrap (n : Int) = (n : Int) := IntWalk.i64_in _ (by omega)
      have hn0 : (0 : Int) ≤ (n : Int) := by omega
      have hn1' : (n : Int) < (n : Int) + 1 := by omega
      have hpos : (0 : Int) < (n : Int) + 1 := by omega
      have hlL : sL.length ≤ 9223372036854775807 := by
        rcases hown.2 with ⟨e, _⟩ | ⟨_, _, _, e, _, _, q1, q2, _, _⟩
        · cases e
        · cases e
          unfold maxLen at q2
          omega
      have hw2 : IntKind.i64.wrap ((sat : Int) + 1) = (sat : Int) + 1 := IntWalk.i64_in _ (by omega)
      have hs0 : (0 : Int) ≤ (sat : Int) + 1 := by omega
      have htn : ((sat : Int) + 1).toNat = sat + 1 := by omega
      by_cases hlt : sat + 1 < sL.length
      · obtain ⟨y, hy⟩ : ∃ y, sL[sat + 1]? = some y := ⟨_, List.getElem?_eq_getElem hlt⟩
        obtain ⟨lo', hi', ps', hz'⟩ := hnx y hy
        obtain ⟨hc2, hk2⟩ := cur_turn hc1 (sat + 1)
        rw [hn2, show ((sat + 1 : Nat) : Int) = (sat : Int) + 1 by omega] at hc2 hk2
        have htrue : decide (t < all.length) = true := by
          obtain ⟨a, b, e1, e2, _⟩ := hz'.pos
          have hne := hz'.tree.2 (by simp)
          have := congrArg List.length e1
          have h5 := List.length_pos_iff.2 hne
          have := ht1.out
          simp at this ⊢
          simp only [List.length_append] at *
          omega
        obtain ⟨W2, hW2⟩ : ∃ W2, W2 = (wr.setCell ⟨g, n * 2 + 1, none⟩ (.int .i64 ((sat : Int) + 1))).drew := ⟨_, rfl⟩
        have hlt' : (sat : Int) + 1 < (sL.length : Int) := by omega
        have K2 : Keeps (Cc.S ⟨x.b, .slice (some ⟨g, 0, none⟩) (n + 1) cap, xiv⟩) wr W2 := by rw [hW2]; exact hk2.keeps.drew
        have hc2W : CurAt W2 p ⟨x.b, .slice (some ⟨g, 0, none⟩) (n + 1) cap, xiv⟩ root (st2 ++ [⟨.slice (some ⟨gs, os, none⟩) sL.length ds, sat + 1, sL⟩]) items at' on := by
          rw [hW2]; exact hc2.below ((Below.refl _ _).drew)
        have hk2W : CurK ⟨x.b, .slice (some ⟨g, 0, none⟩) (n + 1) cap, xiv⟩ ⟨x.b, .slice (some ⟨g, 0, none⟩) (n + 1) cap, xiv⟩ wr W2 := ⟨K2, fun _ e => .inl e, rfl⟩
        have hpg2 := hpgr.keeps K2 (by rw [← hn2]; exact hn1)
        have hD := down_ok 42 #[] (fun _ => 0) (fun _ _ _ off => off = t) (enters_of Tryz.func42 (by kernel_rfl) rfl) (fun L hL => List.length_pos_iff.2 hL)
          (fun W A n d L _ _ _ _ _ => (leftmost_any (.slice A n d) W).mono fun e w' ⟨h1, h2⟩ => ⟨h1, h2 ▸ Below.refl _ _⟩) (fun L lo hi ps off lo' hi' ps' off' _ h1 h2 h3 h4 => (h1 rfl).trans h4)
          k1 y.page lo' hi' ps' (off1 + ps1.length) _ items at' on hpg2 hc2W (by rw [← hn2]; exact hn1) (by rw [List.map_append]; exact hz') (by rw [List.length_append, List.length_singleton]; omega) ht1.out
        have hown2 := own_keeps hown K2 (by rw [← hn2]; exact hsk.2)
        obtain ⟨_, _, e6, _, _, hcl6⟩ := Sl.of_own hown2
        cases e6
        obtain ⟨b6, o6, e6, _, hcell6⟩ := hcl6 (by omega)
        cases e6
        have hpage : W2.cell? ⟨gs, os + (sat + 1) * 2 + 1, none⟩ = some (.int .i64 y.page) := by
          have h1 := childrenCs_at sL (sat + 1) 1 hlt (by omega)
          rw [List.getElem?_eq_getElem hlt, Option.some.injEq] at hy
          rw [hy] at h1
          have h2 := hcell6 _ _ (h1.trans rfl)
          rw [← Nat.add_assoc] at h2
          exact h2
        have hpage' : (wr.setCell ⟨g, n * 2 + 1, none⟩ (.int .i64 ((sat : Int) + 1))).cell? ⟨gs, os + (sat + 1) * 2 + 1, none⟩ = some (.int .i64 y.page) := by
          rw [hW2] at hpage
          exact hpage
        clear hpage
        have HD := Lib.hid hD
        have HK := Lib.hid ((hk1.trans (by rw [hn2]; exact hk2W)))
        have HT := Lib.hid htrue
        have HW2 := Lib.hid hW2
        clear hD hc2W hk2W hk2 hc2 hpg2 K2 hown2 hcl6 hcell6 hc1 hk1 hz1 ht1 hzz hpar hnx hpv hpgr hn1 h hc hn hz ht hlow hpath hpcell hcell hcl hsk hown hz' hy htrue hW2 hil hlt
        go_wp2_with (fail)
        refine wp_region_any (by kernel_rfl) ?_
        change wpAny _ _ _ _ _ _ _ (World.drew _)
        try simp only [Act.put, lT, l0, lS]
        refine tk 0 (v := ?_) rfl (by kernel_rfl) (fun _ _ _ h => h) (by rfl) ?hy ?_
        case hy => intro w; go_simp; try with_reducible rfl
        try simp only [Act.put, lT, l0, lS]
        refine tk 1 (v := ?_) rfl (by kernel_rfl) (fun _ _ _ h => h) (by rfl) ?hy ?_
        case hy => intro w; go_simp; try with_reducible rfl
        try simp only [Act.put, lT, l0, lS]
        refine tk 2 (v := ?_) rfl (by kernel_rfl) (fun _ _ _ h => h) (by rfl) ?hy ?_
        case hy => intro w; go_simp; try with_reducible rfl
        try simp only [Act.put, lT, l0, lS]
        refine tk 4 (v := ?_) rfl (by kernel_rfl) (fun _ _ _ h => h) (by rfl) ?hy ?_
        case hy => intro w; go_simp; try with_reducible rfl
        try simp only [Act.put, lT, l0, lS]
        refine tk 5 (v := ?_) rfl (by kernel_rfl) (fun _ _ _ h => h) (by rfl) ?hy ?_
        case hy => intro w; go_simp; try with_reducible rfl
        try simp only [Act.put, lT, l0, lS]
        refine tk 6 (v := ?_) rfl (by kernel_rfl) (fun _ _ _ h => h) (by rfl) ?hy ?_
        case hy => intro w; go_simp; try with_reducible rfl
        try simp only [Act.put, lT, l0, lS]
        try simp only [Act.put, lT, l0, lS]
        refine tkR 7 (v := ?_) rfl (by kernel_rfl) (fun _ _ _ h => h) (by rfl) ?hy ?_
        case hy => intro w hE; have q0 := hE.cell c2; go_simp; try with_reducible rfl
        try simp only [Act.put, lT, l0, lS]
        try simp only [Act.put, lT, l0, lS]
        refine tk 8 (v := ?_) rfl (by kernel_rfl) (fun _ _ _ h => h) (by rfl) ?hy ?_
        case hy => intro w; go_simp; try with_reducible rfl
        try simp only [Act.put, lT, l0, lS]
        refine tk 9 (v := ?_) rfl (by kernel_rfl) (fun _ _ _ h => h) (by rfl) ?hy ?_
        case hy => intro w; go_simp; try with_reducible rfl
        try simp only [Act.put, lT, l0, lS]
        try simp only [Act.put, lT, l0, lS]
        refine tkR 3 (v := ?_) rfl (by kernel_rfl) (fun _ _ _ h => h) (by rfl) ?hy ?_
        case hy => intro w hE; have q0 := hE.cell c2; go_simp; try with_reducible rfl
        try simp only [Act.put, lT, l0, lS]
        try simp only [Act.put, lT, l0, lS]
        refine tk 10 (v := ?_) rfl (by kernel_rfl) (fun _ _ _ h => h) (by rfl) ?hy ?_
        case hy => intro w; go_simp; try with_reducible rfl
        try simp only [Act.put, lT, l0, lS]
        refine rd 11 (by kernel_rfl) rfl (fun K hK => ?_)
        go_simp
        refine hK _ _ ?_
        clear hK K
        refine wpAny_done (by kernel_rfl) ?_ _
        go_wp2_with (fail)
        rw [← HW2.out]
        go_must (refine HD.out.mono ?_)
        rintro e w2 ⟨x2, st3, its, lo3, hi3, ps3, off3, lid3, rfl, q1, q2, q3⟩
        have HQ := Lib.hid (And.intro q1 (And.intro q2 q3))
        clear q1 q2 q3
        go_wp2_with (fail)
        go_ret
        obtain ⟨q1, q2, q3⟩ := HQ.out
        rw [HR.out, HT.out]
        exact ⟨x2, st3, its, lo3, hi3, ps3, off3, lid3, rfl, q1, HK.out.trans q2, q3⟩
      · obtain ⟨hc2, hk2⟩ := cur_pop hc1
        rw [hn2] at hc2 hk2
        obtain ⟨id', lo', hi', ps', off', hz', t1, t2⟩ := hpar
        have hlt' : ¬ (sat : Int) + 1 < (sL.length : Int) := by omega
        have e1 := t1 (by omega)
        have hg' := hg.out
        rw [List.length_append, List.length_singleton, hn2] at hg'
        have HE : Hid (∃ x1 st1 k1 id1 lo1 hi1 ps1 off1, Hid (st1.length = n) ∧ CurAt (wr.setCell ⟨x.b, 2, none⟩ (.slice (some ⟨g, 0, none⟩) n cap)).drew.drew p x1 root st1 items at' on ∧ CurK x x1 w (wr.setCell ⟨x.b, 2, none⟩ (.slice (some ⟨g, 0, none⟩) n cap)).drew.drew ∧ Hid (Zip M 2 all k1 id1 lo1 hi1 ps1 off1 (st1.map CStep.ghost)) ∧ Hid (off1 + ps1.length = t)) :=
          ⟨_, st2, k1 + 1, id', lo', hi', ps', off', hn2, hc2.below ((Below.refl _ _).drew.drew), (hk1.trans (by rw [hn2]; exact hk2)).trans (CurK.of_below ((Below.refl _ _).drew.drew)), hz', by show _ = _; rw [e1]; exact ht1.out⟩
        have HG := Lib.hid hg'
        have b2 := hc1.blk.frozen 2
        simp only at b2
        clear hc2 hk2 hc1 hk1 hz1 ht1 hzz hnx hpv hpgr hn1 h hc hn hz ht hlow hpath hpcell hcell hcl hsk hown hz' t1 t2 e1 hil hlt hg hg'
        go_wp2_with (fail)
        refine wp_region_any (by kernel_rfl) ?_
        change wpAny _ _ _ _ _ _ _ (World.drew _)
        try simp only [Act.put, lT, l0, lS]
        refine tk 0 (v := ?_) rfl (by kernel_rfl) (fun _ _ _ h => h) (by rfl) ?hy ?_
        case hy => intro w; go_simp; try with_reducible rfl
        try simp only [Act.put, lT, l0, lS]
        refine tk 1 (v := ?_) rfl (by kernel_rfl) (fun _ _ _ h => h) (by rfl) ?hy ?_
        case hy => intro w; go_simp; try with_reducible rfl
        try simp only [Act.put, lT, l0, lS]
        refine tk 2 (v := ?_) rfl (by kernel_rfl) (fun _ _ _ h => h) (by rfl) ?hy ?_
        case hy => intro w; go_simp; try with_reducible rfl
        try simp only [Act.put, lT, l0, lS]
        refine tk 4 (v := ?_) rfl (by kernel_rfl) (fun _ _ _ h => h) (by rfl) ?hy ?_
        case hy => intro w; go_simp; try with_reducible rfl
        try simp only [Act.put, lT, l0, lS]
        refine tk 5 (v := ?_) rfl (by kernel_rfl) (fun _ _ _ h => h) (by rfl) ?hy ?_
        case hy => intro w; go_simp; try with_reducible rfl
        try simp only [Act.put, lT, l0, lS]
        refine tk 6 (v := ?_) rfl (by kernel_rfl) (fun _ _ _ h => h) (by rfl) ?hy ?_
        case hy => intro w; go_simp; try with_reducible rfl
        try simp only [Act.put, lT, l0, lS]
        try simp only [Act.put, lT, l0, lS]
        refine tkR 7 (v := ?_) rfl (by kernel_rfl) (fun _ _ _ h => h) (by rfl) ?hy ?_
        case hy => intro w hE; have q0 := hE.cell c2; go_simp; try with_reducible rfl
        try simp only [Act.put, lT, l0, lS]
        try simp only [Act.put, lT, l0, lS]
        refine tk 8 (v := ?_) rfl (by kernel_rfl) (fun _ _ _ h => h) (by rfl) ?hy ?_
        case hy => intro w; go_simp; try with_reducible rfl
        try simp only [Act.put, lT, l0, lS]
        refine tk 9 (v := ?_) rfl (by kernel_rfl) (fun _ _ _ h => h) (by rfl) ?hy ?_
        case hy => intro w; go_simp; try with_reducible rfl
        try simp only [Act.put, lT, l0, lS]
        try simp only [Act.put, lT, l0, lS]
        refine tkR 3 (v := ?_) rfl (by kernel_rfl) (fun _ _ _ h => h) (by rfl) ?hy ?_
        case hy => intro w hE; have q0 := hE.cell c2; go_simp; try with_reducible rfl
        try simp only [Act.put, lT, l0, lS]
        try simp only [Act.put, lT, l0, lS]
        refine tk 10 (v := ?_) rfl (by kernel_rfl) (fun _ _ _ h => h) (by rfl) ?hy ?_
        case hy => intro w; go_simp; try with_reducible rfl
        try simp only [Act.put, lT, l0, lS]
        refine rd 11 (by kernel_rfl) rfl (fun K hK => ?_)
        go_simp
        refine hK _ _ ?_
        clear hK K
        refine wpAny_done (by kernel_rfl) ?_ _
        go_wp2_with (fail)
        refine wp_region_any (by kernel_rfl) ?_
        change wpAny _ _ _ _ _ _ _ (World.drew _)
        try simp only [Act.put, lT, l0, lS]
        refine tk 0 (v := ?_) rfl (by kernel_rfl) (fun _ _ _ h => h) (by rfl) ?hy ?_
        case hy => intro w; go_simp; try with_reducible rfl
        try simp only [Act.put, lT, l0, lS]
        refine tk 1 (v := ?_) rfl (by kernel_rfl) (fun _ _ _ h => h) (by rfl) ?hy ?_
        case hy => intro w; go_simp; try with_reducible rfl
        try simp only [Act.put, lT, l0, lS]
        refine tk 2 (v := ?_) rfl (by kernel_rfl) (fun _ _ _ h => h) (by rfl) ?hy ?_
        case hy => intro w; go_simp; try with_reducible rfl
        try simp only [Act.put, lT, l0, lS]
        refine tk 3 (v := ?_) rfl (by kernel_rfl) (fun _ _ _ h => h) (by rfl) ?hy ?_
        case hy => intro w; go_simp; try with_reducible rfl
        try simp only [Act.put, lT, l0, lS]
        refine tk 5 (v := ?_) rfl (by kernel_rfl) (fun _ _ _ h => h) (by rfl) ?hy ?_
        case hy => intro w; go_simp; try with_reducible rfl
        try simp only [Act.put, lT, l0, lS]
        refine tk 6 (v := ?_) rfl (by kernel_rfl) (fun _ _ _ h => h) (by rfl) ?hy ?_
        case hy => intro w; go_simp; try with_reducible rfl
        try simp only [Act.put, lT, l0, lS]
        refine tk 7 (v := ?_) rfl (by kernel_rfl) (fun _ _ _ h => h) (by rfl) ?hy ?_
        case hy => intro w; go_simp; try with_reducible rfl
        try simp only [Act.put, lT, l0, lS]
        try simp only [Act.put, lT, l0, lS]
        refine tkR 8 (v := ?_) rfl (by kernel_rfl) (fun _ _ _ h => h) (by rfl) ?hy ?_
        case hy => intro w hE; have q0 := hE.cell c2; go_simp; try with_reducible rfl
        try simp only [Act.put, lT, l0, lS]
        try simp only [Act.put, lT, l0, lS]
        refine tk 9 (v := ?_) rfl (by kernel_rfl) (fun _ _ _ h => h) (by rfl) ?hy ?_
        case hy => intro w; go_simp; try with_reducible rfl
        try simp only [Act.put, lT, l0, lS]
        refine tk 10 (v := ?_) rfl (by kernel_rfl) (fun _ _ _ h => h) (by rfl) ?hy ?_
        case hy => intro w; go_simp; try with_reducible rfl
        try simp only [Act.put, lT, l0, lS]
        try simp only [Act.put, lT, l0, lS]
        refine tkR 4 (v := ?_) rfl (by kernel_rfl) (fun _ _ _ h => h) (by rfl) ?hy ?_
        case hy => intro w hE; have q0 := hE.cell c2; go_simp; try with_reducible rfl
        try simp only [Act.put, lT, l0, lS]
        try simp only [Act.put, lT, l0, lS]
        refine tk 11 (v := ?_) rfl (by kernel_rfl) (fun _ _ _ h => h) (by rfl) ?hy ?_
        case hy => intro w; go_simp; try with_reducible rfl
        try simp only [Act.put, lT, l0, lS]
        refine tk 12 (v := ?_) rfl (by kernel_rfl) (fun _ _ _ h => h) (by rfl) ?hy ?_
        case hy => intro w; go_simp; try with_reducible rfl
        try simp only [Act.put, lT, l0, lS]
        refine tk 13 (v := ?_) rfl (by kernel_rfl) (fun _ _ _ h => h) (by rfl) ?hy ?_
        case hy => intro w; go_simp; try with_reducible rfl
        try simp only [Act.put, lT, l0, lS]
        refine rd 14 (by kernel_rfl) rfl (fun K hK => ?_)
        go_simp
        refine hK _ _ ?_
        clear hK K
        refine wpAny_done (by kernel_rfl) ?_ _
        go_wp2_with (fail)
        go_roundg n
        case measure => have := HG.out; omega
        case rel => exact HE.out
set_option maxHeartbeats 4000000 in
set_option maxRecDepth 100000 in
theorem overP_ok (lid : Int) (lo : Bytes) (hi : Option Bytes) (ps : List Pair) (off t : Nat) (h : PgOk w p c most M cnt) (hc : CurAt w p x root st items at' on) (hn : ∀ j, c.S p j → ¬ x.S j) (hz : Zip M 2 all 0 lid lo hi ps off (st.map CStep.ghost)) (hlow : Low M all) (ht : off = t) :
    Calls Tryz.prog 48 #[ptrV x.b, .int .i64 (-1), .func (.func 44) #[] #[]] w (OverP M all p x root (decide (0 < t)) at' on (fun _ _ ps off => off + ps.length = t) w) := by
  obtain ⟨R, hR⟩ : ∃ R, R = decide (0 < t) := ⟨_, rfl⟩
  rw [← hR]
  have HR := Lib.hid hR
  clear hR
  go_enter Tryz.func48, Tryz.ntmps48
  go_wp2_with (fail)
  go_loopg [] st.length (fun gk wr => ∃ x1 st1 k1 id1 lo1 hi1 ps1 off1, Hid (st1.length = gk) ∧ CurAt wr p x1 root st1 items at' on ∧ CurK x x1 w wr ∧ Hid (Zip M 2 all k1 id1 lo1 hi1 ps1 off1 (st1.map CStep.ghost)) ∧ Hid (off1 = t))
  case atStart => exact ⟨x, st, 0, lid, lo, hi, ps, off, rfl, hc, CurK.refl _ _, hz, ht⟩
  case round =>
    obtain ⟨x1, st1, k1, id1, lo1, hi1, ps1, off1, hg, hc1, hk1, hz1, ht1⟩ := hrel
    have hpgr : PgOk wr p c most M cnt := h.keeps hk1.keeps hn
    have hn1 := hk1.hn h hn
    have hxb1 := hk1.same
    rcases x1 with ⟨xb, xpv, xiv⟩
    simp only at hxb1
    subst hxb1
    rcases List.eq_nil_or_concat st1 with rfl | ⟨st2, s, hst⟩
    · -- nothing is left of the way
      have hg0 : gk = 0 := by have := hg.out; simpa using this.symm
      obtain ⟨e1, e2⟩ := Zip.top hz1.out
      have hfalse : decide (0 < t) = false := by
        have := ht1.out
        rw [e2] at this
        simp
        omega
      have hpath := hc1.path
      simp only [List.length_nil] at hpath
      obtain ⟨Ap, dp, hpe, _⟩ := Sl.of_own hpath
      subst hpe
      have c2 : wr.cell? ⟨x.b, 2, none⟩ = some (.slice Ap 0 dp) := hc1.blk.cell 2
      have HRS := Lib.hid (reset_ok hc1)
      have HK := Lib.hid hk1
      have HF := Lib.hid hfalse
      clear hc1 hk1 hz1 ht1 hpgr hn1 hpath h hc hn hz ht hg hlow e1 e2 hfalse
      go_wp2_with (fail)
      go_must (refine HRS.out.mono ?_)
      rintro e w2 ⟨rfl, q1, q2⟩
      go_wp2_with (fail)
      go_ret
      rw [HR.out, HF.out]
      exact ⟨rfl, q1, HK.out.trans q2⟩
    · rw [List.concat_eq_append] at hst
      subst hst
      have hpath := hc1.path
      rw [List.length_append, List.length_singleton] at hpath
      rcases hpath.2 with ⟨_, h0⟩ | ⟨g, cap, cur, hpe, hgb, hheap, hnc, hcm, hcs, hcx⟩
      · cases h0
      simp only at hpe
      subst hpe
      clear hgb hheap hnc hcm hcs hcx
      have hzz := hz1.out
      rw [List.map_append] at hzz
      obtain ⟨hil, hpar, hnx, hpv⟩ := Zip.beside (i := s.at') (L := s.L) hzz
      have hhigh : k1 + (st2.length + 1) < 30 := by
        obtain ⟨id', ids', hT'⟩ := hz1.out.high
        have := hlow _ _ _ hT'
        simpa using this
      obtain ⟨n, hn2⟩ : ∃ n, st2.length = n := ⟨_, rfl⟩
      have hsk := hc1.kids s (by simp)
      have hown := hsk.1
      unfold OwnsC at hown
      obtain ⟨sv, sat, sL⟩ := s
      simp only at hil hpar hnx hpv hown hsk hzz
      obtain ⟨As, ds, rfl, _⟩ := Sl.of_own hown
      obtain ⟨_, _, e0, _, _, hcl⟩ := Sl.of_own hown
      cases e0
      obtain ⟨gs, os, rfl, hgs, hcell⟩ := hcl (by omega)
      -- the last step's cells
      have hpcell : ∀ j u, (cstepsCs (st2 ++ [⟨.slice (some ⟨gs, os, none⟩) sL.length ds, sat, sL⟩]))[j]? = some u → wr.cell? ⟨g, 0 + j, none⟩ = some u := by
        obtain ⟨_, _, e1, _, _, hcl⟩ := Sl.of_own hpath
        cases e1
        obtain ⟨b', o', e2, _, hcl2⟩ := hcl (by omega)
        cases e2
        exact hcl2
      have a0 : wr.cell? ⟨g, n * 2, none⟩ = some (.slice (some ⟨gs, os, none⟩) sL.length ds) := by
        have := hpcell (n * 2) (.slice (some ⟨gs, os, none⟩) sL.length ds) (by rw [cstepsCs_snoc, List.getElem?_append_right (by rw [cstepsCs_len]; omega), cstepsCs_len, hn2]; simp [cstepCs])
        rwa [Nat.zero_add] at this
      have a1 : wr.cell? ⟨g, n * 2 + 1, none⟩ = some (.int .i64 (sat : Int)) := by
        have := hpcell (n * 2 + 1) (.int .i64 (sat : Int)) (by rw [cstepsCs_snoc, List.getElem?_append_right (by rw [cstepsCs_len]; omega), cstepsCs_len, hn2]; simp [cstepCs])
        rwa [Nat.zero_add] at this
      have f1 : wr.frozen? ⟨g, n * 2 + 1, none⟩ = false := World.ownsRow.frozenAt hpath _
      have c2 : wr.cell? ⟨x.b, 2, none⟩ = some (.slice (some ⟨g, 0, none⟩) (n + 1) cap) := by rw [← hn2]; exact hc1.blk.cell 2
      have hcapn : n + 1 ≤ cap := by
        obtain ⟨_, _, e1, hcap, _, _⟩ := Sl.of_own hpath
        cases e1
        omega
      have hcap0 : (n : Int) ≤ (cap : Int) := by omega
      have hw1 : IntKind.i64.wrap (n : Int) = (n : Int) := IntWalk.i64_in _ (by omega)
      have hn0 : (0 : Int) ≤ (n : Int) := by omega
      have hn1' : (n : Int) < (n : Int) + 1 := by omega
      have hpos : (0 : Int) < (n : Int) + 1 := by omega
      have hlL : sL.length ≤ 9223372036854775807 := by
        rcases hown.2 with ⟨e, _⟩ | ⟨_, _, _, e, _, _, q1, q2, _, _⟩
        · cases e
        · cases e
          unfold maxLen at q2
          omega
      have hw2 : IntKind.i64.wrap (-1) = -1 := by kernel_rfl
      have hneg : ¬ (0 : Int) ≤ -1 := by omega
      by_cases hlt : 0 < sat
      · obtain ⟨m, rfl⟩ : ∃ m, sat = m + 1 := ⟨sat - 1, by omega⟩
        simp only [Nat.add_sub_cancel] at hpv
        obtain ⟨y, hy⟩ : ∃ y, sL[m]? = some y := ⟨_, List.getElem?_eq_getElem (by omega)⟩
        obtain ⟨lo', hi', ps', off', hz', hoff⟩ := hpv y hy (by omega)
        obtain ⟨hc2, hk2⟩ := cur_turn hc1 m
        rw [hn2] at hc2 hk2
        have hwm : IntKind.i64.wrap (m : Int) = (m : Int) := IntWalk.i64_in _ (by omega)
        have hm0 : (0 : Int) ≤ (m : Int) := by omega
        have hmm : (m : Int) + 1 + -1 = (m : Int) := by omega
        have htrue : decide (0 < t) = true := by
          have hne := hz'.tree.2 (by simp)
          have h5 := List.length_pos_iff.2 hne
          have := ht1.out
          simp
          omega
        obtain ⟨W2, hW2⟩ : ∃ W2, W2 = (wr.setCell ⟨g, n * 2 + 1, none⟩ (.int .i64 (m : Int))).drew := ⟨_, rfl⟩
        have hlt' : (m : Int) < (sL.length : Int) := by omega
        have K2 : Keeps (Cc.S ⟨x.b, .slice (some ⟨g, 0, none⟩) (n + 1) cap, xiv⟩) wr W2 := by rw [hW2]; exact hk2.keeps.drew
        have hc2W : CurAt W2 p ⟨x.b, .slice (some ⟨g, 0, none⟩) (n + 1) cap, xiv⟩ root (st2 ++ [⟨.slice (some ⟨gs, os, none⟩) sL.length ds, m, sL⟩]) items at' on := by
          rw [hW2]; exact hc2.below ((Below.refl _ _).drew)
        have hk2W : CurK ⟨x.b, .slice (some ⟨g, 0, none⟩) (n + 1) cap, xiv⟩ ⟨x.b, .slice (some ⟨g, 0, none⟩) (n + 1) cap, xiv⟩ wr W2 := ⟨K2, fun _ e => .inl e, rfl⟩
        have hpg2 := hpgr.keeps K2 (by rw [← hn2]; exact hn1)
        have hD := down_ok 44 #[] (fun L => L.length - 1) (fun _ _ ps off => off + ps.length = t) (enters_of Tryz.func44 (by kernel_rfl) rfl) (fun L hL => by have := List.length_pos_iff.2 hL; omega)
          (fun W A n d L _ _ hr hl hn => (rightmost_any A n d W (rightC_pos hr hl) (by omega)).mono fun e w' ⟨h1, h2⟩ => ⟨by rw [h1, hl], h2 ▸ Below.refl _ _⟩) right_picks
          k1 y.page lo' hi' ps' off' _ items at' on hpg2 hc2W (by rw [← hn2]; exact hn1) (by rw [List.map_append]; exact hz') (by rw [List.length_append, List.length_singleton]; omega) (hoff.trans ht1.out)
        have hown2 := own_keeps hown K2 (by rw [← hn2]; exact hsk.2)
        obtain ⟨_, _, e6, _, _, hcl6⟩ := Sl.of_own hown2
        cases e6
        obtain ⟨b6, o6, e6, _, hcell6⟩ := hcl6 (by omega)
        cases e6
        have hpage : W2.cell? ⟨gs, os + m * 2 + 1, none⟩ = some (.int .i64 y.page) := by
          have h1 := childrenCs_at sL m 1 (by omega) (by omega)
          rw [List.getElem?_eq_getElem (by omega : m < sL.length), Option.some.injEq] at hy
          rw [hy] at h1
          have h2 := hcell6 _ _ (h1.trans rfl)
          rw [← Nat.add_assoc] at h2
          exact h2
        have hpage' : (wr.setCell ⟨g, n * 2 + 1, none⟩ (.int .i64 (m : Int))).cell? ⟨gs, os + m * 2 + 1, none⟩ = some (.int .i64 y.page) := by
          rw [hW2] at hpage
          exact hpage
        clear hpage
        have HD := Lib.hid hD
        have HK := Lib.hid ((hk1.trans (by rw [hn2]; exact hk2W)))
        have HT := Lib.hid htrue
        have HW2 := Lib.hid hW2
        clear hD hc2W hk2W hk2 hc2 hpg2 K2 hown2 hcl6 hcell6 hc1 hk1 hz1 ht1 hzz hpar hnx hpv hpgr hn1 h hc hn hz ht hlow hpath hpcell hcell hcl hsk hown hz' hy htrue hW2 hil hlt hoff
        go_wp2_with (fail)
        refine wp_region_any (by kernel_rfl) ?_
        change wpAny _ _ _ _ _ _ _ (World.drew _)
        try simp only [Act.put, lT, l0, lS]
        refine tk 0 (v := ?_) rfl (by kernel_rfl) (fun _ _ _ h => h) (by rfl) ?hy ?_
        case hy => intro w; go_simp; try with_reducible rfl
        try simp only [Act.put, lT, l0, lS]
        refine tk 1 (v := ?_) rfl (by kernel_rfl) (fun _ _ _ h => h) (by rfl) ?hy ?_
        case hy => intro w; go_simp; try with_reducible rfl
        try simp only [Act.put, lT, l0, lS]
        refine tk 2 (v := ?_) rfl (by kernel_rfl) (fun _ _ _ h => h) (by rfl) ?hy ?_
        case hy => intro w; go_simp; try with_reducible rfl
        try simp only [Act.put, lT, l0, lS]
        refine tk 4 (v := ?_) rfl (by kernel_rfl) (fun _ _ _ h => h) (by rfl) ?hy ?_
        case hy => intro w; go_simp; try with_reducible rfl
        try simp only [Act.put, lT, l0, lS]
        refine tk 5 (v := ?_) rfl (by kernel_rfl) (fun _ _ _ h => h) (by rfl) ?hy ?_
        case hy => intro w; go_simp; try with_reducible rfl
        try simp only [Act.put, lT, l0, lS]
        refine tk 6 (v := ?_) rfl (by kernel_rfl) (fun _ _ _ h => h) (by rfl) ?hy ?_
        case hy => intro w; go_simp; try with_reducible rfl
        try simp only [Act.put, lT, l0, lS]
        try simp only [Act.put, lT, l0, lS]
        refine tkR 7 (v := ?_) rfl (by kernel_rfl) (fun _ _ _ h => h) (by rfl) ?hy ?_
        case hy => intro w hE; have q0 := hE.cell c2; go_simp; try with_reducible rfl
        try simp only [Act.put, lT, l0, lS]
        try simp only [Act.put, lT, l0, lS]
        refine tk 8 (v := ?_) rfl (by kernel_rfl) (fun _ _ _ h => h) (by rfl) ?hy ?_
        case hy => intro w; go_simp; try with_reducible rfl
        try simp only [Act.put, lT, l0, lS]
        refine tk 9 (v := ?_) rfl (by kernel_rfl) (fun _ _ _ h => h) (by rfl) ?hy ?_
        case hy => intro w; go_simp; try with_reducible rfl
        try simp only [Act.put, lT, l0, lS]
        try simp only [Act.put, lT, l0, lS]
        refine tkR 3 (v := ?_) rfl (by kernel_rfl) (fun _ _ _ h => h) (by rfl) ?hy ?_
        case hy => intro w hE; have q0 := hE.cell c2; go_simp; try with_reducible rfl
        try simp only [Act.put, lT, l0, lS]
        try simp only [Act.put, lT, l0, lS]
        refine tk 10 (v := ?_) rfl (by kernel_rfl) (fun _ _ _ h => h) (by rfl) ?hy ?_
        case hy => intro w; go_simp; try with_reducible rfl
        try simp only [Act.put, lT, l0, lS]
        refine rd 11 (by kernel_rfl) rfl (fun K hK => ?_)
        go_simp
        refine hK _ _ ?_
        clear hK K
        refine wpAny_done (by kernel_rfl) ?_ _
        go_wp2_with (fail)
        rw [← HW2.out]
        go_must (refine HD.out.mono ?_)
        rintro e w2 ⟨x2, st3, its, lo3, hi3, ps3, off3, lid3, rfl, q1, q2, q3⟩
        have HQ := Lib.hid (And.intro q1 (And.intro q2 q3))
        clear q1 q2 q3
        go_wp2_with (fail)
        go_ret
        obtain ⟨q1, q2, q3⟩ := HQ.out
        rw [HR.out, HT.out]
        exact ⟨x2, st3, its, lo3, hi3, ps3, off3, lid3, rfl, q1, HK.out.trans q2, q3⟩
      · obtain ⟨hc2, hk2⟩ := cur_pop hc1
        rw [hn2] at hc2 hk2
        obtain ⟨id', lo', hi', ps', off', hz', t1, t2⟩ := hpar
        have hs00 : sat = 0 := by omega
        subst hs00
        have e1 := t2 rfl
        have hg' := hg.out
        rw [List.length_append, List.length_singleton, hn2] at hg'
        have HE : Hid (∃ x1 st1 k1 id1 lo1 hi1 ps1 off1, Hid (st1.length = n) ∧ CurAt (wr.setCell ⟨x.b, 2, none⟩ (.slice (some ⟨g, 0, none⟩) n cap)).drew.drew p x1 root st1 items at' on ∧ CurK x x1 w (wr.setCell ⟨x.b, 2, none⟩ (.slice (some ⟨g, 0, none⟩) n cap)).drew.drew ∧ Hid (Zip M 2 all k1 id1 lo1 hi1 ps1 off1 (st1.map CStep.ghost)) ∧ Hid (off1 = t)) :=
          ⟨_, st2, k1 + 1, id', lo', hi', ps', off', hn2, hc2.below ((Below.refl _ _).drew.drew), (hk1.trans (by rw [hn2]; exact hk2)).trans (CurK.of_below ((Below.refl _ _).drew.drew)), hz', by show _ = _; rw [e1]; exact ht1.out⟩
        have HG := Lib.hid hg'
        have b2 := hc1.blk.frozen 2
        simp only at b2
        clear hc2 hk2 hc1 hk1 hz1 ht1 hzz hnx hpv hpgr hn1 h hc hn hz ht hlow hpath hpcell hcell hcl hsk hown hz' t1 t2 e1 hil hlt hg hg'
        go_wp2_with (fail)
        refine wp_region_any (by kernel_rfl) ?_
        change wpAny _ _ _ _ _ _ _ (World.drew _)
        try simp only [Act.put, lT, l0, lS]
        refine tk 0 (v := ?_) rfl (by kernel_rfl) (fun _ _ _ h => h) (by rfl) ?hy ?_
        case hy => intro w; go_simp; try with_reducible rfl
        try simp only [Act.put, lT, l0, lS]
        refine tk 1 (v := ?_) rfl (by kernel_rfl) (fun _ _ _ h => h) (by rfl) ?hy ?_
        case hy => intro w; go_simp; try with_reducible rfl
        try simp only [Act.put, lT, l0, lS]
        refine tk 2 (v := ?_) rfl (by kernel_rfl) (fun _ _ _ h => h) (by rfl) ?hy ?_
        case hy => intro w; go_simp; try with_reducible rfl
        try simp only [Act.put, lT, l0, lS]
        refine tk 4 (v := ?_) rfl (by kernel_rfl) (fun _ _ _ h => h) (by rfl) ?hy ?_
        case hy => intro w; go_simp; try with_reducible rfl
        try simp only [Act.put, lT, l0, lS]
        refine tk 5 (v := ?_) rfl (by kernel_rfl) (fun _ _ _ h => h) (by rfl) ?hy ?_
        case hy => intro w; go_simp; try with_reducible rfl
        try simp only [Act.put, lT, l0, lS]
        refine tk 6 (v := ?_) rfl (by kernel_rfl) (fun _ _ _ h => h) (by rfl) ?hy ?_
        case hy => intro w; go_simp; try with_reducible rfl
        try simp only [Act.put, lT, l0, lS]
        try simp only [Act.put, lT, l0, lS]
        refine tkR 7 (v := ?_) rfl (by kernel_rfl) (fun _ _ _ h => h) (by rfl) ?hy ?_
        case hy => intro w hE; have q0 := hE.cell c2; go_simp; try with_reducible rfl
        try simp only [Act.put, lT, l0, lS]
        try simp only [Act.put, lT, l0, lS]
        refine tk 8 (v := ?_) rfl (by kernel_rfl) (fun _ _ _ h => h) (by rfl) ?hy ?_
        case hy => intro w; go_simp; try with_reducible rfl
        try simp only [Act.put, lT, l0, lS]
        refine tk 9 (v := ?_) rfl (by kernel_rfl) (fun _ _ _ h => h) (by rfl) ?hy ?_
        case hy => intro w; go_simp; try with_reducible rfl
        try simp only [Act.put, lT, l0, lS]
        try simp only [Act.put, lT, l0, lS]
        refine tkR 3 (v := ?_) rfl (by kernel_rfl) (fun _ _ _ h => h) (by rfl) ?hy ?_
        case hy => intro w hE; have q0 := hE.cell c2; go_simp; try with_reducible rfl
        try simp only [Act.put, lT, l0, lS]
        try simp only [Act.put, lT, l0, lS]
        refine tk 10 (v := ?_) rfl (by kernel_rfl) (fun _ _ _ h => h) (by rfl) ?hy ?_
        case hy => intro w; go_simp; try with_reducible rfl
        try simp only [Act.put, lT, l0, lS]
        refine rd 11 (by kernel_rfl) rfl (fun K hK => ?_)
        go_simp
        refine hK _ _ ?_
        clear hK K
        refine wpAny_done (by kernel_rfl) ?_ _
        go_wp2_with (fail)
        refine wp_region_any (by kernel_rfl) ?_
        change wpAny _ _ _ _ _ _ _ (World.drew _)
        try simp only [Act.put, lT, l0, lS]
        refine tk 0 (v := ?_) rfl (by kernel_rfl) (fun _ _ _ h => h) (by rfl) ?hy ?_
        case hy => intro w; go_simp; try with_reducible rfl
        try simp only [Act.put, lT, l0, lS]
        refine tk 1 (v := ?_) rfl (by kernel_rfl) (fun _ _ _ h => h) (by rfl) ?hy ?_
        case hy => intro w; go_simp; try with_reducible rfl
        try simp only [Act.put, lT, l0, lS]
        refine tk 2 (v := ?_) rfl (by kernel_rfl) (fun _ _ _ h => h) (by rfl) ?hy ?_
        case hy => intro w; go_simp; try with_reducible rfl
        try simp only [Act.put, lT, l0, lS]
        refine tk 3 (v := ?_) rfl (by kernel_rfl) (fun _ _ _ h => h) (by rfl) ?hy ?_
        case hy => intro w; go_simp; try with_reducible rfl
        try simp only [Act.put, lT, l0, lS]
        refine tk 5 (v := ?_) rfl (by kernel_rfl) (fun _ _ _ h => h) (by rfl) ?hy ?_
        case hy => intro w; go_simp; try with_reducible rfl
        try simp only [Act.put, lT, l0, lS]
        refine tk 6 (v := ?_) rfl (by kernel_rfl) (fun _ _ _ h => h) (by rfl) ?hy ?_
        case hy => intro w; go_simp; try with_reducible rfl
        try simp only [Act.put, lT, l0, lS]
        refine tk 7 (v := ?_) rfl (by kernel_rfl) (fun _ _ _ h => h) (by rfl) ?hy ?_
        case hy => intro w; go_simp; try with_reducible rfl
        try simp only [Act.put, lT, l0, lS]
        try simp only [Act.put, lT, l0, lS]
        refine tkR 8 (v := ?_) rfl (by kernel_rfl) (fun _ _ _ h => h) (by rfl) ?hy ?_
        case hy => intro w hE; have q0 := hE.cell c2; go_simp; try with_reducible rfl
        try simp only [Act.put, lT, l0, lS]
        try simp only [Act.put, lT, l0, lS]
        refine tk 9 (v := ?_) rfl (by kernel_rfl) (fun _ _ _ h => h) (by rfl) ?hy ?_
        case hy => intro w; go_simp; try with_reducible rfl
        try simp only [Act.put, lT, l0, lS]
        refine tk 10 (v := ?_) rfl (by kernel_rfl) (fun _ _ _ h => h) (by rfl) ?hy ?_
        case hy => intro w; go_simp; try with_reducible rfl
        try simp only [Act.put, lT, l0, lS]
        try simp only [Act.put, lT, l0, lS]
        refine tkR 4 (v := ?_) rfl (by kernel_rfl) (fun _ _ _ h => h) (by rfl) ?hy ?_
        case hy => intro w hE; have q0 := hE.cell c2; go_simp; try with_reducible rfl
        try simp only [Act.put, lT, l0, lS]
        try simp only [Act.put, lT, l0, lS]
        refine tk 11 (v := ?_) rfl (by kernel_rfl) (fun _ _ _ h => h) (by rfl) ?hy ?_
        case hy => intro w; go_simp; try with_reducible rfl
        try simp only [Act.put, lT, l0, lS]
        refine tk 12 (v := ?_) rfl (by kernel_rfl) (fun _ _ _ h => h) (by rfl) ?hy ?_
        case hy => intro w; go_simp; try with_reducible rfl
        try simp only [Act.put, lT, l0, lS]
        refine tk 13 (v := ?_) rfl (by kernel_rfl) (fun _ _ _ h => h) (by rfl) ?hy ?_
        case hy => intro w; go_simp; try with_reducible rfl
        try simp only [Act.put, lT, l0, lS]
        refine rd 14 (by kernel_rfl) rfl (fun K hK => ?_)
        go_simp
        refine hK _ _ ?_
        clear hK K
        refine wpAny_done (by kernel_rfl) ?_ _
        go_wp2_with (fail)
        go_roundg n
        case measure => have := HG.out; omega
        case rel => exact HE.out
end
end Go.Ev
