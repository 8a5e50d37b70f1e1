/-
  A cursor's leaf ahead or behind; Seek; Next, Prev. Next, Prev, Seek. Pair, Seek. Seek. What a range is of rising pairs: by the cursor's walk, by the document's list, in two parts, with a bound.
-/
import Derived.Test.YtgfmhppkmogdhaaGreatDoorMPGvAny2
import Derived.Test.YtgfmhppkmogdhaaGreatDoorMPGwCurs2
import Derived.Test.YtgfmhppkmogdhaaGreatDoorMPGwKey
import Derived.Test.YtgfmhppkmogdhaaGreatDoorMPGwPick
import Derived.Test.YtgfmhppkmogdhaaGreatDoorMPGwSame
set_option linter.unusedVariables false
set_option linter.unusedSimpArgs false
set_option linter.unusedVariables false
set_option linter.unusedSimpArgs false
namespace Go.Ev
open Go.Proofs Go.RowKit

section
variable {p most cnt : Nat} {c : Pc} {M : Store} {all : List Pair} {x : Cc} {root : Int} {w : World} {st : List CStep} {items : List Item} {at' : Int} {on : Bool}

theorem own_pop {w : World} {base z n : Nat} {e : TypeId} {g cap : Nat} {xs : List Value} (h : w.ownsRow base e z (.slice (some ⟨g, 0, none⟩) (n + 1) cap) (n + 1) xs) : w.ownsRow base e z (.slice (some ⟨g, 0, none⟩) n cap) n (xs.take (n * z)) := by
  obtain ⟨h1, ⟨e0, _⟩ | ⟨g', cap', cur, e0, hgb, hheap, hnc, hcm, hcs, hcx⟩⟩ := h
  · cases e0
  · cases e0
    have hle : n * z ≤ (n + 1) * z := Nat.mul_le_mul_right _ (by omega)
    refine ⟨by rw [List.length_take, h1]; omega, .inr ⟨g, cap, cur, rfl, hgb, hheap, by omega, hcm, hcs, ?_⟩⟩
    rw [← hcx, List.take_take, Nat.min_eq_left hle]

theorem cstepsCs_take (st : List CStep) (s : CStep) : (cstepsCs (st ++ [s])).take (st.length * 2) = cstepsCs st := by
  rw [cstepsCs_snoc, ← cstepsCs_len, List.take_left']
  rfl
theorem cstepsCs_set (st : List CStep) (s : CStep) (k : Nat) : (cstepsCs (st ++ [s])).set (st.length * 2 + 1) (.int .i64 (k : Int)) = cstepsCs (st ++ [{ s with at' := k }]) := by
  rw [cstepsCs_snoc, cstepsCs_snoc, List.set_append_right _ _ (by rw [cstepsCs_len]; omega), cstepsCs_len]
  simp [cstepCs]

theorem cur_pop {s : CStep} {b g cap : Nat} {iv : Value} (h : CurAt w p ⟨b, .slice (some ⟨g, 0, none⟩) (st.length + 1) cap, iv⟩ root (st ++ [s]) items at' on) :
    CurAt (w.setCell ⟨b, 2, none⟩ (.slice (some ⟨g, 0, none⟩) st.length cap)) p ⟨b, .slice (some ⟨g, 0, none⟩) st.length cap, iv⟩ root st items at' on ∧ CurK ⟨b, .slice (some ⟨g, 0, none⟩) (st.length + 1) cap, iv⟩ ⟨b, .slice (some ⟨g, 0, none⟩) st.length cap, iv⟩ w (w.setCell ⟨b, 2, none⟩ (.slice (some ⟨g, 0, none⟩) st.length cap)) := by
  have K : Keeps (fun j => j = b) w (w.setCell ⟨b, 2, none⟩ (.slice (some ⟨g, 0, none⟩) st.length cap)) := (Keeps.refl (fun j => j = b) w).setCell (p := ⟨b, 2, none⟩) (fun _ => rfl) _
  have hp := h.path
  rw [List.length_append, List.length_singleton] at hp
  have hpop := own_pop hp
  rw [cstepsCs_take] at hpop
  have hgb : g ≠ b := own_ne h.path h.blk (by decide) g rfl
  refine ⟨⟨h.blk.set 2 _, own_keeps hpop K fun j hj e => ?_, fun s' hs' => ⟨own_keeps (h.kids s' (List.mem_append_left _ hs')).1 K fun j hj e => (h.kids s' (List.mem_append_left _ hs')).2 j hj (.inl e), fun j hj e => (h.kids s' (List.mem_append_left _ hs')).2 j hj e⟩, own_keeps h.its K fun j hj e => h.itn j hj (.inl e), h.itn⟩, K.mono fun _ _ e => .inl e, fun _ e => .inl e, rfl⟩
  simp only [Value.ownBlock, Option.some.injEq] at hj
  exact hgb (hj.trans e)

theorem cur_turn {s : CStep} {b g cap : Nat} {iv : Value} (h : CurAt w p ⟨b, .slice (some ⟨g, 0, none⟩) (st.length + 1) cap, iv⟩ root (st ++ [s]) items at' on) (k : Nat) :
    CurAt (w.setCell ⟨g, st.length * 2 + 1, none⟩ (.int .i64 (k : Int))) p ⟨b, .slice (some ⟨g, 0, none⟩) (st.length + 1) cap, iv⟩ root (st ++ [{ s with at' := k }]) items at' on ∧ CurK ⟨b, .slice (some ⟨g, 0, none⟩) (st.length + 1) cap, iv⟩ ⟨b, .slice (some ⟨g, 0, none⟩) (st.length + 1) cap, iv⟩ w (w.setCell ⟨g, st.length * 2 + 1, none⟩ (.int .i64 (k : Int))) := by
  have K : Keeps (fun j => j = g) w (w.setCell ⟨g, st.length * 2 + 1, none⟩ (.int .i64 (k : Int))) := (Keeps.refl (fun j => j = g) w).setCell (p := ⟨g, st.length * 2 + 1, none⟩) (fun _ => rfl) _
  have hp := h.path
  rw [List.length_append, List.length_singleton] at hp
  obtain ⟨q, _⟩ := World.ownsRow.stored hp (st.length * 2 + 1) (.int .i64 (k : Int))
  rw [cstepsCs_set] at q
  have hgb : g ≠ b := own_ne h.path h.blk (by decide) g rfl
  have hl : (st ++ [{ s with at' := k }]).length = (st ++ [s]).length := by simp
  refine ⟨⟨h.blk.keeps K (fun e => hgb e.symm), by rw [hl, List.length_append, List.length_singleton]; exact q, fun s' hs' => ?_, own_keeps h.its K fun j hj e => h.itn j hj (.inr (by rw [e]; rfl)), h.itn⟩, K.mono fun _ _ e => .inr (by rw [e]; rfl), fun _ e => .inl e, rfl⟩
  rcases List.mem_append.1 hs' with hm | hm
  · exact ⟨own_keeps (h.kids s' (List.mem_append_left _ hm)).1 K fun j hj e => (h.kids s' (List.mem_append_left _ hm)).2 j hj (.inr (by rw [e]; rfl)), (h.kids s' (List.mem_append_left _ hm)).2⟩
  · rw [List.mem_singleton.1 hm]
    exact ⟨own_keeps (h.kids s (by simp)).1 K fun j hj e => (h.kids s (by simp)).2 j hj (.inr (by rw [e]; rfl)), (h.kids s (by simp)).2⟩

/-- What comes of 'over': at the leaf, or nowhere. -/
def OverP (M : Store) (all : List Pair) (p : Nat) (x : Cc) (root : Int) (is : Bool) (at' : Int) (on : Bool) (Q : Bytes → Option Bytes → List Pair → Nat → Prop) (w : World) (e : Ending) (w' : World) : Prop :=
  if is then DownP M all p x root at' on Q w e w' else ResetP p x root w (.bool false) e w'

set_option maxHeartbeats 4000000 in
set_option maxRecDepth 100000 in
theorem overN_ok (lid : Int) (lo : Bytes) (hi : Option Bytes) (ps : List Pair) (off t : Nat) (h : PgOk w p c most M cnt) (hc : CurAt w p x root st items at' on) (hn : ∀ j, c.S p j → ¬ x.S j) (hz : Zip M 2 all 0 lid lo hi ps off (st.map CStep.ghost)) (hlow : Low M all) (ht : off + ps.length = t) :
    Calls Tryz.prog 48 #[ptrV x.b, .int .i64 1, .func (.func 42) #[] #[]] w (OverP M all p x root (decide (t < all.length)) at' on (fun _ _ _ off => off = t) w) := by
  obtain ⟨R, hR⟩ : ∃ R, R = decide (t < all.length) := ⟨_, rfl⟩
  rw [← hR]
  have HR := Lib.hid hR
  clear hR
  go_enter Tryz.func48, Tryz.ntmps48
  go_wp2_with (fail)
  go_loopg [] st.length (fun gk wr => ∃ x1 st1 k1 id1 lo1 hi1 ps1 off1, Hid (st1.length = gk) ∧ CurAt wr p x1 root st1 items at' on ∧ CurK x x1 w wr ∧ Hid (Zip M 2 all k1 id1 lo1 hi1 ps1 off1 (st1.map CStep.ghost)) ∧ Hid (off1 + ps1.length = t))
  case atStart => exact ⟨x, st, 0, lid, lo, hi, ps, off, rfl, hc, CurK.refl _ _, hz, ht⟩
  case round =>
    obtain ⟨x1, st1, k1, id1, lo1, hi1, ps1, off1, hg, hc1, hk1, hz1, ht1⟩ := hrel
    have hpgr : PgOk wr p c most M cnt := h.keeps hk1.keeps hn
    have hn1 := hk1.hn h hn
    have hxb1 := hk1.same
    rcases x1 with ⟨xb, xpv, xiv⟩
    simp only at hxb1
    subst hxb1
    rcases List.eq_nil_or_concat st1 with rfl | ⟨st2, s, hst⟩
    · -- nothing is left of the way
      have hg0 : gk = 0 := by have := hg.out; simpa using this.symm
      obtain ⟨e1, e2⟩ := Zip.top hz1.out
      have hfalse : decide (t < all.length) = false := by
        have := ht1.out
        rw [e1, e2] at this
        simp
        omega
      have hpath := hc1.path
      simp only [List.length_nil] at hpath
      obtain ⟨Ap, dp, hpe, _⟩ := Sl.of_own hpath
      subst hpe
      have c2 : wr.cell? ⟨x.b, 2, none⟩ = some (.slice Ap 0 dp) := hc1.blk.cell 2
      have HRS := Lib.hid (reset_ok hc1)
      have HK := Lib.hid hk1
      have HF := Lib.hid hfalse
      clear hc1 hk1 hz1 ht1 hpgr hn1 hpath h hc hn hz ht hg hlow e1 e2 hfalse
      go_wp2_with (fail)
      go_must (refine HRS.out.mono ?_)
      rintro e w2 ⟨rfl, q1, q2⟩
      go_wp2_with (fail)
      go_ret
      rw [HR.out, HF.out]
      exact ⟨rfl, q1, HK.out.trans q2⟩
    · rw [List.concat_eq_append] at hst
      subst hst
      have hpath := hc1.path
      rw [List.length_append, List.length_singleton] at hpath
      rcases hpath.2 with ⟨_, h0⟩ | ⟨g, cap, cur, hpe, hgb, hheap, hnc, hcm, hcs, hcx⟩
      · cases h0
      simp only at hpe
      subst hpe
      clear hgb hheap hnc hcm hcs hcx
      have hzz := hz1.out
      rw [List.map_append] at hzz
      obtain ⟨hil, hpar, hnx, hpv⟩ := Zip.beside (i := s.at') (L := s.L) hzz
      have hhigh : k1 + (st2.length + 1) < 30 := by
        obtain ⟨id', ids', hT'⟩ := hz1.out.high
        have := hlow _ _ _ hT'
        simpa using this
      obtain ⟨n, hn2⟩ : ∃ n, st2.length = n := ⟨_, rfl⟩
      have hsk := hc1.kids s (by simp)
      have hown := hsk.1
      unfold OwnsC at hown
      obtain ⟨sv, sat, sL⟩ := s
      simp only at hil hpar hnx hpv hown hsk hzz
      obtain ⟨As, ds, rfl, _⟩ := Sl.of_own hown
      obtain ⟨_, _, e0, _, _, hcl⟩ := Sl.of_own hown
      cases e0
      obtain ⟨gs, os, rfl, hgs, hcell⟩ := hcl (by omega)
      -- the last step's cells
      have hpcell : ∀ j u, (cstepsCs (st2 ++ [⟨.slice (some ⟨gs, os, none⟩) sL.length ds, sat, sL⟩]))[j]? = some u → wr.cell? ⟨g, 0 + j, none⟩ = some u := by
        obtain ⟨_, _, e1, _, _, hcl⟩ := Sl.of_own hpath
        cases e1
        obtain ⟨b', o', e2, _, hcl2⟩ := hcl (by omega)
        cases e2
        exact hcl2
      have a0 : wr.cell? ⟨g, n * 2, none⟩ = some (.slice (some ⟨gs, os, none⟩) sL.length ds) := by
        have := hpcell (n * 2) (.slice (some ⟨gs, os, none⟩) sL.length ds) (by rw [cstepsCs_snoc, List.getElem?_append_right (by rw [cstepsCs_len]; omega), cstepsCs_len, hn2]; simp [cstepCs])
        rwa [Nat.zero_add] at this
      have a1 : wr.cell? ⟨g, n * 2 + 1, none⟩ = some (.int .i64 (sat : Int)) := by
        have := hpcell (n * 2 + 1) (.int .i64 (sat : Int)) (by rw [cstepsCs_snoc, List.getElem?_append_right (by rw [cstepsCs_len]; omega), cstepsCs_len, hn2]; simp [cstepCs])
        rwa [Nat.zero_add] at this
      have f1 : wr.frozen? ⟨g, n * 2 + 1, none⟩ = false := World.ownsRow.frozenAt hpath _
      have c2 : wr.cell? ⟨x.b, 2, none⟩ = some (.slice (some ⟨g, 0, none⟩) (n + 1) cap) := by rw [← hn2]; exact hc1.blk.cell 2
      have hcapn : n + 1 ≤ cap := by
        obtain ⟨_, _, e1, hcap, _, _⟩ := Sl.of_own hpath
        cases e1
        omega
      have hcap0 : (n : Int) ≤ (cap : Int) := by omega
      have hw1 : IntKind.i64.wrap (n : Int) = (n : Int) := IntWalk.i64_in _ (by omega)
      have hn0 : (0 : Int) ≤ (n : Int) := by omega
      have hn1' : (n : Int) < (n : Int) + 1 := by omega
      have hpos : (0 : Int) < (n : Int) + 1 := by omega
      have hlL : sL.length ≤ 9223372036854775807 := by
        rcases hown.2 with ⟨e, _⟩ | ⟨_, _, _, e, _, _, q1, q2, _, _⟩
        · cases e
        · cases e
          unfold maxLen at q2
          omega
      have hw2 : IntKind.i64.wrap ((sat : Int) + 1) = (sat : Int) + 1 := IntWalk.i64_in _ (by omega)
      have hs0 : (0 : Int) ≤ (sat : Int) + 1 := by omega
      have htn : ((sat : Int) + 1).toNat = sat + 1 := by omega
      by_cases hlt : sat + 1 < sL.length
      · obtain ⟨y, hy⟩ : ∃ y, sL[sat + 1]? = some y := ⟨_, List.getElem?_eq_getElem hlt⟩
        obtain ⟨lo', hi', ps', hz'⟩ := hnx y hy
        obtain ⟨hc2, hk2⟩ := cur_turn hc1 (sat + 1)
        rw [hn2, show ((sat + 1 : Nat) : Int) = (sat : Int) + 1 by omega] at hc2 hk2
        have htrue : decide (t < all.length) = true := by
          obtain ⟨a, b, e1, e2, _⟩ := hz'.pos
          have hne := hz'.tree.2 (by simp)
          have := congrArg List.length e1
          have h5 := List.length_pos_iff.2 hne
          have := ht1.out
          simp at this ⊢
          simp only [List.length_append] at *
          omega
        obtain ⟨W2, hW2⟩ : ∃ W2, W2 = (wr.setCell ⟨g, n * 2 + 1, none⟩ (.int .i64 ((sat : Int) + 1))).drew := ⟨_, rfl⟩
        have hlt' : (sat : Int) + 1 < (sL.length : Int) := by omega
        have K2 : Keeps (Cc.S ⟨x.b, .slice (some ⟨g, 0, none⟩) (n + 1) cap, xiv⟩) wr W2 := by rw [hW2]; exact hk2.keeps.drew
        have hc2W : CurAt W2 p ⟨x.b, .slice (some ⟨g, 0, none⟩) (n + 1) cap, xiv⟩ root (st2 ++ [⟨.slice (some ⟨gs, os, none⟩) sL.length ds, sat + 1, sL⟩]) items at' on := by
          rw [hW2]; exact hc2.below ((Below.refl _ _).drew)
        have hk2W : CurK ⟨x.b, .slice (some ⟨g, 0, none⟩) (n + 1) cap, xiv⟩ ⟨x.b, .slice (some ⟨g, 0, none⟩) (n + 1) cap, xiv⟩ wr W2 := ⟨K2, fun _ e => .inl e, rfl⟩
        have hpg2 := hpgr.keeps K2 (by rw [← hn2]; exact hn1)
        have hD := down_ok 42 #[] (fun _ => 0) (fun _ _ _ off => off = t) (enters_of Tryz.func42 (by kernel_rfl) rfl) (fun L hL => List.length_pos_iff.2 hL)
          (fun W A n d L _ _ _ _ _ => (leftmost_any (.slice A n d) W).mono fun e w' ⟨h1, h2⟩ => ⟨h1, h2 ▸ Below.refl _ _⟩) (fun L lo hi ps off lo' hi' ps' off' _ h1 h2 h3 h4 => (h1 rfl).trans h4)
          k1 y.page lo' hi' ps' (off1 + ps1.length) _ items at' on hpg2 hc2W (by rw [← hn2]; exact hn1) (by rw [List.map_append]; exact hz') (by rw [List.length_append, List.length_singleton]; omega) ht1.out
        have hown2 := own_keeps hown K2 (by rw [← hn2]; exact hsk.2)
        obtain ⟨_, _, e6, _, _, hcl6⟩ := Sl.of_own hown2
        cases e6
        obtain ⟨b6, o6, e6, _, hcell6⟩ := hcl6 (by omega)
        cases e6
        have hpage : W2.cell? ⟨gs, os + (sat + 1) * 2 + 1, none⟩ = some (.int .i64 y.page) := by
          have h1 := childrenCs_at sL (sat + 1) 1 hlt (by omega)
          rw [List.getElem?_eq_getElem hlt, Option.some.injEq] at hy
          rw [hy] at h1
          have h2 := hcell6 _ _ (h1.trans rfl)
          rw [← Nat.add_assoc] at h2
          exact h2
        have hpage' : (wr.setCell ⟨g, n * 2 + 1, none⟩ (.int .i64 ((sat : Int) + 1))).cell? ⟨gs, os + (sat + 1) * 2 + 1, none⟩ = some (.int .i64 y.page) := by
          rw [hW2] at hpage
          exact hpage
        clear hpage
        have HD := Lib.hid hD
        have HK := Lib.hid ((hk1.trans (by rw [hn2]; exact hk2W)))
        have HT := Lib.hid htrue
        have HW2 := Lib.hid hW2
        clear hD hc2W hk2W hk2 hc2 hpg2 K2 hown2 hcl6 hcell6 hc1 hk1 hz1 ht1 hzz hpar hnx hpv hpgr hn1 h hc hn hz ht hlow hpath hpcell hcell hcl hsk hown hz' hy htrue hW2 hil hlt
        go_wp2_with (fail)
        refine wp_region_any (by kernel_rfl) ?_
        change wpAny _ _ _ _ _ _ _ (World.drew _)
        try simp only [Act.put, lT, l0, lS]
        refine tA 0 ?_; try simp only [Act.put, lT, l0, lS]
        refine tA 1 ?_; try simp only [Act.put, lT, l0, lS]
        refine tA 2 ?_; try simp only [Act.put, lT, l0, lS]
        refine tA 4 ?_; try simp only [Act.put, lT, l0, lS]
        refine tA 5 ?_; try simp only [Act.put, lT, l0, lS]
        refine tA 6 ?_; try simp only [Act.put, lT, l0, lS]
        try simp only [Act.put, lT, l0, lS]
        refine rA 7 (v := ?_) (hy := ?hy) ?_; case hy => (intro w hE; have q0 := hE.cell c2; go_simp; try with_reducible rfl)
        try simp only [Act.put, lT, l0, lS]
        try simp only [Act.put, lT, l0, lS]
        refine tA 8 ?_; try simp only [Act.put, lT, l0, lS]
        refine tA 9 ?_; try simp only [Act.put, lT, l0, lS]
        try simp only [Act.put, lT, l0, lS]
        refine rA 3 (v := ?_) (hy := ?hy) ?_; case hy => (intro w hE; have q0 := hE.cell c2; go_simp; try with_reducible rfl)
        try simp only [Act.put, lT, l0, lS]
        try simp only [Act.put, lT, l0, lS]
        refine tA 10 ?_; try simp only [Act.put, lT, l0, lS]
        refine rd 11 (by kernel_rfl) rfl (fun K hK => ?_); go_simp; refine hK _ _ ?_; clear hK K
        refine wpAny_done (by kernel_rfl) ?_ _
        go_wp2_with (fail)
        rw [← HW2.out]
        go_must (refine HD.out.mono ?_)
        rintro e w2 ⟨x2, st3, its, lo3, hi3, ps3, off3, lid3, rfl, q1, q2, q3⟩
        have HQ := Lib.hid (And.intro q1 (And.intro q2 q3))
        clear q1 q2 q3
        go_wp2_with (fail)
        go_ret
        obtain ⟨q1, q2, q3⟩ := HQ.out
        rw [HR.out, HT.out]
        exact ⟨x2, st3, its, lo3, hi3, ps3, off3, lid3, rfl, q1, HK.out.trans q2, q3⟩
      · obtain ⟨hc2, hk2⟩ := cur_pop hc1
        rw [hn2] at hc2 hk2
        obtain ⟨id', lo', hi', ps', off', hz', t1, t2⟩ := hpar
        have hlt' : ¬ (sat : Int) + 1 < (sL.length : Int) := by omega
        have e1 := t1 (by omega)
        have hg' := hg.out
        rw [List.length_append, List.length_singleton, hn2] at hg'
        have HE : Hid (∃ x1 st1 k1 id1 lo1 hi1 ps1 off1, Hid (st1.length = n) ∧ CurAt (wr.setCell ⟨x.b, 2, none⟩ (.slice (some ⟨g, 0, none⟩) n cap)).drew.drew p x1 root st1 items at' on ∧ CurK x x1 w (wr.setCell ⟨x.b, 2, none⟩ (.slice (some ⟨g, 0, none⟩) n cap)).drew.drew ∧ Hid (Zip M 2 all k1 id1 lo1 hi1 ps1 off1 (st1.map CStep.ghost)) ∧ Hid (off1 + ps1.length = t)) :=
          ⟨_, st2, k1 + 1, id', lo', hi', ps', off', hn2, hc2.below ((Below.refl _ _).drew.drew), (hk1.trans (by rw [hn2]; exact hk2)).trans (CurK.of_below ((Below.refl _ _).drew.drew)), hz', by show _ = _; rw [e1]; exact ht1.out⟩
        have HG := Lib.hid hg'
        have b2 := hc1.blk.frozen 2
        simp only at b2
        clear hc2 hk2 hc1 hk1 hz1 ht1 hzz hnx hpv hpgr hn1 h hc hn hz ht hlow hpath hpcell hcell hcl hsk hown hz' t1 t2 e1 hil hlt hg hg'
        go_wp2_with (fail)
        refine wp_region_any (by kernel_rfl) ?_
        change wpAny _ _ _ _ _ _ _ (World.drew _)
        try simp only [Act.put, lT, l0, lS]
        refine tA 0 ?_; try simp only [Act.put, lT, l0, lS]
        refine tA 1 ?_; try simp only [Act.put, lT, l0, lS]
        refine tA 2 ?_; try simp only [Act.put, lT, l0, lS]
        refine tA 4 ?_; try simp only [Act.put, lT, l0, lS]
        refine tA 5 ?_; try simp only [Act.put, lT, l0, lS]
        refine tA 6 ?_; try simp only [Act.put, lT, l0, lS]
        try simp only [Act.put, lT, l0, lS]
        refine rA 7 (v := ?_) (hy := ?hy) ?_; case hy => (intro w hE; have q0 := hE.cell c2; go_simp; try with_reducible rfl)
        try simp only [Act.put, lT, l0, lS]
        try simp only [Act.put, lT, l0, lS]
        refine tA 8 ?_; try simp only [Act.put, lT, l0, lS]
        refine tA 9 ?_; try simp only [Act.put, lT, l0, lS]
        try simp only [Act.put, lT, l0, lS]
        refine rA 3 (v := ?_) (hy := ?hy) ?_; case hy => (intro w hE; have q0 := hE.cell c2; go_simp; try with_reducible rfl)
        try simp only [Act.put, lT, l0, lS]
        try simp only [Act.put, lT, l0, lS]
        refine tA 10 ?_; try simp only [Act.put, lT, l0, lS]
        refine rd 11 (by kernel_rfl) rfl (fun K hK => ?_); go_simp; refine hK _ _ ?_; clear hK K
        refine wpAny_done (by kernel_rfl) ?_ _
        go_wp2_with (fail)
        refine wp_region_any (by kernel_rfl) ?_
        change wpAny _ _ _ _ _ _ _ (World.drew _)
        try simp only [Act.put, lT, l0, lS]
        refine tA 0 ?_; try simp only [Act.put, lT, l0, lS]
        refine tA 1 ?_; try simp only [Act.put, lT, l0, lS]
        refine tA 2 ?_; try simp only [Act.put, lT, l0, lS]
        refine tA 3 ?_; try simp only [Act.put, lT, l0, lS]
        refine tA 5 ?_; try simp only [Act.put, lT, l0, lS]
        refine tA 6 ?_; try simp only [Act.put, lT, l0, lS]
        refine tA 7 ?_; try simp only [Act.put, lT, l0, lS]
        try simp only [Act.put, lT, l0, lS]
        refine rA 8 (v := ?_) (hy := ?hy) ?_; case hy => (intro w hE; have q0 := hE.cell c2; go_simp; try with_reducible rfl)
        try simp only [Act.put, lT, l0, lS]
        try simp only [Act.put, lT, l0, lS]
        refine tA 9 ?_; try simp only [Act.put, lT, l0, lS]
        refine tA 10 ?_; try simp only [Act.put, lT, l0, lS]
        try simp only [Act.put, lT, l0, lS]
        refine rA 4 (v := ?_) (hy := ?hy) ?_; case hy => (intro w hE; have q0 := hE.cell c2; go_simp; try with_reducible rfl)
        try simp only [Act.put, lT, l0, lS]
        try simp only [Act.put, lT, l0, lS]
        refine tA 11 ?_; try simp only [Act.put, lT, l0, lS]
        refine tA 12 ?_; try simp only [Act.put, lT, l0, lS]
        refine tA 13 ?_; try simp only [Act.put, lT, l0, lS]
        refine rd 14 (by kernel_rfl) rfl (fun K hK => ?_); go_simp; refine hK _ _ ?_; clear hK K
        refine wpAny_done (by kernel_rfl) ?_ _
        go_wp2_with (fail)
        go_roundg n
        case measure => have := HG.out; omega
        case rel => exact HE.out
set_option maxHeartbeats 4000000 in
set_option maxRecDepth 100000 in
theorem overP_ok (lid : Int) (lo : Bytes) (hi : Option Bytes) (ps : List Pair) (off t : Nat) (h : PgOk w p c most M cnt) (hc : CurAt w p x root st items at' on) (hn : ∀ j, c.S p j → ¬ x.S j) (hz : Zip M 2 all 0 lid lo hi ps off (st.map CStep.ghost)) (hlow : Low M all) (ht : off = t) :
    Calls Tryz.prog 48 #[ptrV x.b, .int .i64 (-1), .func (.func 44) #[] #[]] w (OverP M all p x root (decide (0 < t)) at' on (fun _ _ ps off => off + ps.length = t) w) := by
  obtain ⟨R, hR⟩ : ∃ R, R = decide (0 < t) := ⟨_, rfl⟩
  rw [← hR]
  have HR := Lib.hid hR
  clear hR
  go_enter Tryz.func48, Tryz.ntmps48
  go_wp2_with (fail)
  go_loopg [] st.length (fun gk wr => ∃ x1 st1 k1 id1 lo1 hi1 ps1 off1, Hid (st1.length = gk) ∧ CurAt wr p x1 root st1 items at' on ∧ CurK x x1 w wr ∧ Hid (Zip M 2 all k1 id1 lo1 hi1 ps1 off1 (st1.map CStep.ghost)) ∧ Hid (off1 = t))
  case atStart => exact ⟨x, st, 0, lid, lo, hi, ps, off, rfl, hc, CurK.refl _ _, hz, ht⟩
  case round =>
    obtain ⟨x1, st1, k1, id1, lo1, hi1, ps1, off1, hg, hc1, hk1, hz1, ht1⟩ := hrel
    have hpgr : PgOk wr p c most M cnt := h.keeps hk1.keeps hn
    have hn1 := hk1.hn h hn
    have hxb1 := hk1.same
    rcases x1 with ⟨xb, xpv, xiv⟩
    simp only at hxb1
    subst hxb1
    rcases List.eq_nil_or_concat st1 with rfl | ⟨st2, s, hst⟩
    · -- nothing is left of the way
      have hg0 : gk = 0 := by have := hg.out; simpa using this.symm
      obtain ⟨e1, e2⟩ := Zip.top hz1.out
      have hfalse : decide (0 < t) = false := by
        have := ht1.out
        rw [e2] at this
        simp
        omega
      have hpath := hc1.path
      simp only [List.length_nil] at hpath
      obtain ⟨Ap, dp, hpe, _⟩ := Sl.of_own hpath
      subst hpe
      have c2 : wr.cell? ⟨x.b, 2, none⟩ = some (.slice Ap 0 dp) := hc1.blk.cell 2
      have HRS := Lib.hid (reset_ok hc1)
      have HK := Lib.hid hk1
      have HF := Lib.hid hfalse
      clear hc1 hk1 hz1 ht1 hpgr hn1 hpath h hc hn hz ht hg hlow e1 e2 hfalse
      go_wp2_with (fail)
      go_must (refine HRS.out.mono ?_)
      rintro e w2 ⟨rfl, q1, q2⟩
      go_wp2_with (fail)
      go_ret
      rw [HR.out, HF.out]
      exact ⟨rfl, q1, HK.out.trans q2⟩
    · rw [List.concat_eq_append] at hst
      subst hst
      have hpath := hc1.path
      rw [List.length_append, List.length_singleton] at hpath
      rcases hpath.2 with ⟨_, h0⟩ | ⟨g, cap, cur, hpe, hgb, hheap, hnc, hcm, hcs, hcx⟩
      · cases h0
      simp only at hpe
      subst hpe
      clear hgb hheap hnc hcm hcs hcx
      have hzz := hz1.out
      rw [List.map_append] at hzz
      obtain ⟨hil, hpar, hnx, hpv⟩ := Zip.beside (i := s.at') (L := s.L) hzz
      have hhigh : k1 + (st2.length + 1) < 30 := by
        obtain ⟨id', ids', hT'⟩ := hz1.out.high
        have := hlow _ _ _ hT'
        simpa using this
      obtain ⟨n, hn2⟩ : ∃ n, st2.length = n := ⟨_, rfl⟩
      have hsk := hc1.kids s (by simp)
      have hown := hsk.1
      unfold OwnsC at hown
      obtain ⟨sv, sat, sL⟩ := s
      simp only at hil hpar hnx hpv hown hsk hzz
      obtain ⟨As, ds, rfl, _⟩ := Sl.of_own hown
      obtain ⟨_, _, e0, _, _, hcl⟩ := Sl.of_own hown
      cases e0
      obtain ⟨gs, os, rfl, hgs, hcell⟩ := hcl (by omega)
      -- the last step's cells
      have hpcell : ∀ j u, (cstepsCs (st2 ++ [⟨.slice (some ⟨gs, os, none⟩) sL.length ds, sat, sL⟩]))[j]? = some u → wr.cell? ⟨g, 0 + j, none⟩ = some u := by
        obtain ⟨_, _, e1, _, _, hcl⟩ := Sl.of_own hpath
        cases e1
        obtain ⟨b', o', e2, _, hcl2⟩ := hcl (by omega)
        cases e2
        exact hcl2
      have a0 : wr.cell? ⟨g, n * 2, none⟩ = some (.slice (some ⟨gs, os, none⟩) sL.length ds) := by
        have := hpcell (n * 2) (.slice (some ⟨gs, os, none⟩) sL.length ds) (by rw [cstepsCs_snoc, List.getElem?_append_right (by rw [cstepsCs_len]; omega), cstepsCs_len, hn2]; simp [cstepCs])
        rwa [Nat.zero_add] at this
      have a1 : wr.cell? ⟨g, n * 2 + 1, none⟩ = some (.int .i64 (sat : Int)) := by
        have := hpcell (n * 2 + 1) (.int .i64 (sat : Int)) (by rw [cstepsCs_snoc, List.getElem?_append_right (by rw [cstepsCs_len]; omega), cstepsCs_len, hn2]; simp [cstepCs])
        rwa [Nat.zero_add] at this
      have f1 : wr.frozen? ⟨g, n * 2 + 1, none⟩ = false := World.ownsRow.frozenAt hpath _
      have c2 : wr.cell? ⟨x.b, 2, none⟩ = some (.slice (some ⟨g, 0, none⟩) (n + 1) cap) := by rw [← hn2]; exact hc1.blk.cell 2
      have hcapn : n + 1 ≤ cap := by
        obtain ⟨_, _, e1, hcap, _, _⟩ := Sl.of_own hpath
        cases e1
        omega
      have hcap0 : (n : Int) ≤ (cap : Int) := by omega
      have hw1 : IntKind.i64.wrap (n : Int) = (n : Int) := IntWalk.i64_in _ (by omega)
      have hn0 : (0 : Int) ≤ (n : Int) := by omega
      have hn1' : (n : Int) < (n : Int) + 1 := by omega
      have hpos : (0 : Int) < (n : Int) + 1 := by omega
      have hlL : sL.length ≤ 9223372036854775807 := by
        rcases hown.2 with ⟨e, _⟩ | ⟨_, _, _, e, _, _, q1, q2, _, _⟩
        · cases e
        · cases e
          unfold maxLen at q2
          omega
      have hw2 : IntKind.i64.wrap (-1) = -1 := by kernel_rfl
      have hneg : ¬ (0 : Int) ≤ -1 := by omega
      by_cases hlt : 0 < sat
      · obtain ⟨m, rfl⟩ : ∃ m, sat = m + 1 := ⟨sat - 1, by omega⟩
        simp only [Nat.add_sub_cancel] at hpv
        obtain ⟨y, hy⟩ : ∃ y, sL[m]? = some y := ⟨_, List.getElem?_eq_getElem (by omega)⟩
        obtain ⟨lo', hi', ps', off', hz', hoff⟩ := hpv y hy (by omega)
        obtain ⟨hc2, hk2⟩ := cur_turn hc1 m
        rw [hn2] at hc2 hk2
        have hwm : IntKind.i64.wrap (m : Int) = (m : Int) := IntWalk.i64_in _ (by omega)
        have hm0 : (0 : Int) ≤ (m : Int) := by omega
        have hmm : (m : Int) + 1 + -1 = (m : Int) := by omega
        have htrue : decide (0 < t) = true := by
          have hne := hz'.tree.2 (by simp)
          have h5 := List.length_pos_iff.2 hne
          have := ht1.out
          simp
          omega
        obtain ⟨W2, hW2⟩ : ∃ W2, W2 = (wr.setCell ⟨g, n * 2 + 1, none⟩ (.int .i64 (m : Int))).drew := ⟨_, rfl⟩
        have hlt' : (m : Int) < (sL.length : Int) := by omega
        have K2 : Keeps (Cc.S ⟨x.b, .slice (some ⟨g, 0, none⟩) (n + 1) cap, xiv⟩) wr W2 := by rw [hW2]; exact hk2.keeps.drew
        have hc2W : CurAt W2 p ⟨x.b, .slice (some ⟨g, 0, none⟩) (n + 1) cap, xiv⟩ root (st2 ++ [⟨.slice (some ⟨gs, os, none⟩) sL.length ds, m, sL⟩]) items at' on := by
          rw [hW2]; exact hc2.below ((Below.refl _ _).drew)
        have hk2W : CurK ⟨x.b, .slice (some ⟨g, 0, none⟩) (n + 1) cap, xiv⟩ ⟨x.b, .slice (some ⟨g, 0, none⟩) (n + 1) cap, xiv⟩ wr W2 := ⟨K2, fun _ e => .inl e, rfl⟩
        have hpg2 := hpgr.keeps K2 (by rw [← hn2]; exact hn1)
        have hD := down_ok 44 #[] (fun L => L.length - 1) (fun _ _ ps off => off + ps.length = t) (enters_of Tryz.func44 (by kernel_rfl) rfl) (fun L hL => by have := List.length_pos_iff.2 hL; omega)
          (fun W A n d L _ _ hr hl hn => (rightmost_any A n d W (rightC_pos hr hl) (by omega)).mono fun e w' ⟨h1, h2⟩ => ⟨by rw [h1, hl], h2 ▸ Below.refl _ _⟩) right_picks
          k1 y.page lo' hi' ps' off' _ items at' on hpg2 hc2W (by rw [← hn2]; exact hn1) (by rw [List.map_append]; exact hz') (by rw [List.length_append, List.length_singleton]; omega) (hoff.trans ht1.out)
        have hown2 := own_keeps hown K2 (by rw [← hn2]; exact hsk.2)
        obtain ⟨_, _, e6, _, _, hcl6⟩ := Sl.of_own hown2
        cases e6
        obtain ⟨b6, o6, e6, _, hcell6⟩ := hcl6 (by omega)
        cases e6
        have hpage : W2.cell? ⟨gs, os + m * 2 + 1, none⟩ = some (.int .i64 y.page) := by
          have h1 := childrenCs_at sL m 1 (by omega) (by omega)
          rw [List.getElem?_eq_getElem (by omega : m < sL.length), Option.some.injEq] at hy
          rw [hy] at h1
          have h2 := hcell6 _ _ (h1.trans rfl)
          rw [← Nat.add_assoc] at h2
          exact h2
        have hpage' : (wr.setCell ⟨g, n * 2 + 1, none⟩ (.int .i64 (m : Int))).cell? ⟨gs, os + m * 2 + 1, none⟩ = some (.int .i64 y.page) := by
          rw [hW2] at hpage
          exact hpage
        clear hpage
        have HD := Lib.hid hD
        have HK := Lib.hid ((hk1.trans (by rw [hn2]; exact hk2W)))
        have HT := Lib.hid htrue
        have HW2 := Lib.hid hW2
        clear hD hc2W hk2W hk2 hc2 hpg2 K2 hown2 hcl6 hcell6 hc1 hk1 hz1 ht1 hzz hpar hnx hpv hpgr hn1 h hc hn hz ht hlow hpath hpcell hcell hcl hsk hown hz' hy htrue hW2 hil hlt hoff
        go_wp2_with (fail)
        refine wp_region_any (by kernel_rfl) ?_
        change wpAny _ _ _ _ _ _ _ (World.drew _)
        try simp only [Act.put, lT, l0, lS]
        refine tA 0 ?_; try simp only [Act.put, lT, l0, lS]
        refine tA 1 ?_; try simp only [Act.put, lT, l0, lS]
        refine tA 2 ?_; try simp only [Act.put, lT, l0, lS]
        refine tA 4 ?_; try simp only [Act.put, lT, l0, lS]
        refine tA 5 ?_; try simp only [Act.put, lT, l0, lS]
        refine tA 6 ?_; try simp only [Act.put, lT, l0, lS]
        try simp only [Act.put, lT, l0, lS]
        refine rA 7 (v := ?_) (hy := ?hy) ?_; case hy => (intro w hE; have q0 := hE.cell c2; go_simp; try with_reducible rfl)
        try simp only [Act.put, lT, l0, lS]
        try simp only [Act.put, lT, l0, lS]
        refine tA 8 ?_; try simp only [Act.put, lT, l0, lS]
        refine tA 9 ?_; try simp only [Act.put, lT, l0, lS]
        try simp only [Act.put, lT, l0, lS]
        refine rA 3 (v := ?_) (hy := ?hy) ?_; case hy => (intro w hE; have q0 := hE.cell c2; go_simp; try with_reducible rfl)
        try simp only [Act.put, lT, l0, lS]
        try simp only [Act.put, lT, l0, lS]
        refine tA 10 ?_; try simp only [Act.put, lT, l0, lS]
        refine rd 11 (by kernel_rfl) rfl (fun K hK => ?_); go_simp; refine hK _ _ ?_; clear hK K
        refine wpAny_done (by kernel_rfl) ?_ _
        go_wp2_with (fail)
        rw [← HW2.out]
        go_must (refine HD.out.mono ?_)
        rintro e w2 ⟨x2, st3, its, lo3, hi3, ps3, off3, lid3, rfl, q1, q2, q3⟩
        have HQ := Lib.hid (And.intro q1 (And.intro q2 q3))
        clear q1 q2 q3
        go_wp2_with (fail)
        go_ret
        obtain ⟨q1, q2, q3⟩ := HQ.out
        rw [HR.out, HT.out]
        exact ⟨x2, st3, its, lo3, hi3, ps3, off3, lid3, rfl, q1, HK.out.trans q2, q3⟩
      · obtain ⟨hc2, hk2⟩ := cur_pop hc1
        rw [hn2] at hc2 hk2
        obtain ⟨id', lo', hi', ps', off', hz', t1, t2⟩ := hpar
        have hs00 : sat = 0 := by omega
        subst hs00
        have e1 := t2 rfl
        have hg' := hg.out
        rw [List.length_append, List.length_singleton, hn2] at hg'
        have HE : Hid (∃ x1 st1 k1 id1 lo1 hi1 ps1 off1, Hid (st1.length = n) ∧ CurAt (wr.setCell ⟨x.b, 2, none⟩ (.slice (some ⟨g, 0, none⟩) n cap)).drew.drew p x1 root st1 items at' on ∧ CurK x x1 w (wr.setCell ⟨x.b, 2, none⟩ (.slice (some ⟨g, 0, none⟩) n cap)).drew.drew ∧ Hid (Zip M 2 all k1 id1 lo1 hi1 ps1 off1 (st1.map CStep.ghost)) ∧ Hid (off1 = t)) :=
          ⟨_, st2, k1 + 1, id', lo', hi', ps', off', hn2, hc2.below ((Below.refl _ _).drew.drew), (hk1.trans (by rw [hn2]; exact hk2)).trans (CurK.of_below ((Below.refl _ _).drew.drew)), hz', by show _ = _; rw [e1]; exact ht1.out⟩
        have HG := Lib.hid hg'
        have b2 := hc1.blk.frozen 2
        simp only at b2
        clear hc2 hk2 hc1 hk1 hz1 ht1 hzz hnx hpv hpgr hn1 h hc hn hz ht hlow hpath hpcell hcell hcl hsk hown hz' t1 t2 e1 hil hlt hg hg'
        go_wp2_with (fail)
        refine wp_region_any (by kernel_rfl) ?_
        change wpAny _ _ _ _ _ _ _ (World.drew _)
        try simp only [Act.put, lT, l0, lS]
        refine tA 0 ?_; try simp only [Act.put, lT, l0, lS]
        refine tA 1 ?_; try simp only [Act.put, lT, l0, lS]
        refine tA 2 ?_; try simp only [Act.put, lT, l0, lS]
        refine tA 4 ?_; try simp only [Act.put, lT, l0, lS]
        refine tA 5 ?_; try simp only [Act.put, lT, l0, lS]
        refine tA 6 ?_; try simp only [Act.put, lT, l0, lS]
        try simp only [Act.put, lT, l0, lS]
        refine rA 7 (v := ?_) (hy := ?hy) ?_; case hy => (intro w hE; have q0 := hE.cell c2; go_simp; try with_reducible rfl)
        try simp only [Act.put, lT, l0, lS]
        try simp only [Act.put, lT, l0, lS]
        refine tA 8 ?_; try simp only [Act.put, lT, l0, lS]
        refine tA 9 ?_; try simp only [Act.put, lT, l0, lS]
        try simp only [Act.put, lT, l0, lS]
        refine rA 3 (v := ?_) (hy := ?hy) ?_; case hy => (intro w hE; have q0 := hE.cell c2; go_simp; try with_reducible rfl)
        try simp only [Act.put, lT, l0, lS]
        try simp only [Act.put, lT, l0, lS]
        refine tA 10 ?_; try simp only [Act.put, lT, l0, lS]
        refine rd 11 (by kernel_rfl) rfl (fun K hK => ?_); go_simp; refine hK _ _ ?_; clear hK K
        refine wpAny_done (by kernel_rfl) ?_ _
        go_wp2_with (fail)
        refine wp_region_any (by kernel_rfl) ?_
        change wpAny _ _ _ _ _ _ _ (World.drew _)
        try simp only [Act.put, lT, l0, lS]
        refine tA 0 ?_; try simp only [Act.put, lT, l0, lS]
        refine tA 1 ?_; try simp only [Act.put, lT, l0, lS]
        refine tA 2 ?_; try simp only [Act.put, lT, l0, lS]
        refine tA 3 ?_; try simp only [Act.put, lT, l0, lS]
        refine tA 5 ?_; try simp only [Act.put, lT, l0, lS]
        refine tA 6 ?_; try simp only [Act.put, lT, l0, lS]
        refine tA 7 ?_; try simp only [Act.put, lT, l0, lS]
        try simp only [Act.put, lT, l0, lS]
        refine rA 8 (v := ?_) (hy := ?hy) ?_; case hy => (intro w hE; have q0 := hE.cell c2; go_simp; try with_reducible rfl)
        try simp only [Act.put, lT, l0, lS]
        try simp only [Act.put, lT, l0, lS]
        refine tA 9 ?_; try simp only [Act.put, lT, l0, lS]
        refine tA 10 ?_; try simp only [Act.put, lT, l0, lS]
        try simp only [Act.put, lT, l0, lS]
        refine rA 4 (v := ?_) (hy := ?hy) ?_; case hy => (intro w hE; have q0 := hE.cell c2; go_simp; try with_reducible rfl)
        try simp only [Act.put, lT, l0, lS]
        try simp only [Act.put, lT, l0, lS]
        refine tA 11 ?_; try simp only [Act.put, lT, l0, lS]
        refine tA 12 ?_; try simp only [Act.put, lT, l0, lS]
        refine tA 13 ?_; try simp only [Act.put, lT, l0, lS]
        refine rd 14 (by kernel_rfl) rfl (fun K hK => ?_); go_simp; refine hK _ _ ?_; clear hK K
        refine wpAny_done (by kernel_rfl) ?_ _
        go_wp2_with (fail)
        go_roundg n
        case measure => have := HG.out; omega
        case rel => exact HE.out
end
end Go.Ev

set_option linter.unusedVariables false
set_option linter.unusedSimpArgs false
namespace Go.Ev
open Go.Proofs Go.RowKit

section
variable {p most cnt : Nat} {c : Pc} {M : Store} {all : List Pair} {x : Cc} {root : Int} {w : World} {st : List CStep} {items : List Item} {at' : Int} {on : Bool}

theorem next_no (hc : CurAt w p x root st items at' false) : Calls Tryz.prog 18 #[ptrV x.b] w fun e w' => e = .returned (.bool false) ∧ w = w' := by
  have HBad := Lib.hid (bad_not hc)
  have c5 : w.cell? ⟨x.b, 5, none⟩ = some (.bool false) := hc.blk.cell 5
  clear hc
  go_enter Tryz.func18, Tryz.ntmps18
  go_wp2_with (fail)
  go_must (refine HBad.out.mono ?_)
  rintro e w0 ⟨rfl, rfl⟩
  go_wp2_with (fail)
  go_ret
  exact ⟨rfl, rfl⟩
theorem prev_no (hc : CurAt w p x root st items at' false) : Calls Tryz.prog 19 #[ptrV x.b] w fun e w' => e = .returned (.bool false) ∧ w = w' := by
  have HBad := Lib.hid (bad_not hc)
  have c5 : w.cell? ⟨x.b, 5, none⟩ = some (.bool false) := hc.blk.cell 5
  clear hc
  go_enter Tryz.func19, Tryz.ntmps19
  go_wp2_with (fail)
  go_must (refine HBad.out.mono ?_)
  rintro e w0 ⟨rfl, rfl⟩
  go_wp2_with (fail)
  go_ret
  exact ⟨rfl, rfl⟩

theorem Zip.len {k : Nat} {id : Int} {lo : Bytes} {hi : Option Bytes} {ps : List Pair} {off : Nat} {path : List (List Child × Nat)} {d : Nat} (h : Zip M d all k id lo hi ps off path) : off + ps.length ≤ all.length := by
  obtain ⟨a, b, e1, e2, _⟩ := h.pos
  have := congrArg List.length e1
  simp only [List.length_append] at this
  omega

set_option maxHeartbeats 4000000 in
set_option maxRecDepth 100000 in
theorem next_ok (i : Nat) (h : PgOk w p c most M cnt) (hc : CurPos w p x root M all i) (hn : ∀ j, c.S p j → ¬ x.S j) (hlow : Low M all) :
    Calls Tryz.prog 18 #[ptrV x.b] w (GoesP p x root M all (if i + 1 < all.length then some (i + 1) else none) w) := by
  obtain ⟨R, hR⟩ : ∃ R : Option Nat, R = if i + 1 < all.length then some (i + 1) else none := ⟨_, rfl⟩
  rw [← hR]
  have HR := Lib.hid hR
  clear hR
  obtain ⟨st, its, lo, hi, ps, off, lid, j, hc, hz, ⟨i2, hla⟩, hr, hs, hj, rfl⟩ := hc
  have HBad := Lib.hid (bad_not hc)
  have hlen := hla.item.1
  have hzl := hz.len
  have hl240 : its.length ≤ 240 := by have := layI_ge0 its; omega
  have hit := hc.its
  unfold OwnsI at hit
  obtain ⟨Bi, di, hie, _⟩ := Sl.of_own hit
  have c3 : w.cell? ⟨x.b, 3, none⟩ = some (.slice Bi its.length di) := by rw [← hie]; exact hc.blk.cell 3
  have c4 : w.cell? ⟨x.b, 4, none⟩ = some (.int .i64 (j : Int)) := hc.blk.cell 4
  have c5 : w.cell? ⟨x.b, 5, none⟩ = some (.bool true) := hc.blk.cell 5
  have hw : IntKind.i64.wrap ((j : Int) + 1) = (j : Int) + 1 := IntWalk.i64_in _ (by omega)
  have HIE := Lib.hid hie
  clear hit hie
  have hcd := hc.below ((Below.refl w.heap.size w).drew)
  by_cases hlt : j + 1 < its.length
  · have hlt' : (j : Int) + 1 < (its.length : Int) := by omega
    have hS := stand_ok hcd (j + 1) hlt
    rw [show ((j + 1 : Nat) : Int) = (j : Int) + 1 by omega] at hS
    have HS := Lib.hid hS
    have HA := Lib.hid (And.intro hz (And.intro hla (And.intro hr (And.intro hs (And.intro hlt (And.intro hlen hzl))))))
    clear hS hz hla hr hs hlt hlen hzl hc h hn hlow hcd
    go_enter Tryz.func18, Tryz.ntmps18
    go_wp2_with (fail)
    go_must (refine HBad.out.mono ?_)
    rintro e w0 ⟨rfl, rfl⟩
    go_wp2_with (fail)
    go_region
    go_wp2_with (fail)
    go_must (refine HS.out.mono ?_)
    rintro e w1 ⟨rfl, q1, q2⟩
    have HQ := Lib.hid (And.intro q1 q2)
    clear q1 q2
    go_wp2_with (fail)
    go_ret
    obtain ⟨hz, hla, hr, hs, hlt, hlen, hzl⟩ := HA.out
    rw [HR.out, if_pos (by omega)]
    exact ⟨rfl, x, ⟨st, its, lo, hi, ps, off, lid, j + 1, HQ.out.1, hz, ⟨_, hla⟩, hr, hs, hlt, by omega⟩, (CurK.of_below ((Below.refl w.heap.size w).drew)).trans HQ.out.2⟩
  · have hlt' : ¬ (j : Int) + 1 < (its.length : Int) := by omega
    have hO := overN_ok lid lo hi ps off (off + ps.length) (h.below ((Below.refl w.heap.size w).drew)) hcd hn hz hlow rfl
    have HO := Lib.hid hO
    have HA := Lib.hid (And.intro h (And.intro hc (And.intro hn (And.intro hlt (And.intro hlen hzl)))))
    clear hO hz hla hr hs hlt hlen hzl hc h hn hlow hcd
    go_enter Tryz.func18, Tryz.ntmps18
    go_wp2_with (fail)
    go_must (refine HBad.out.mono ?_)
    rintro e w0 ⟨rfl, rfl⟩
    go_wp2_with (fail)
    go_region
    go_wp2_with (fail)
    go_must (refine HO.out.mono ?_)
    rintro e w1 hov
    unfold OverP at hov
    by_cases hT : off + ps.length < all.length
    · rw [decide_eq_true hT] at hov
      simp only [if_true] at hov
      obtain ⟨x2, st2, its2, lo2, hi2, ps2, off2, lid2, rfl, q1, q2, q3, ⟨i3, q4⟩, q5, q6, q7, q8⟩ := hov
      have hxb := q2.same
      have hne : its2 ≠ [] := by
        by_cases h0 : st2 = []
        · subst h0
          obtain ⟨e1, e2⟩ := Zip.top q3
          obtain ⟨h, hc, hn, hlt, hlen, hzl⟩ := HA.out
          omega
        · exact q7 h0
      have hp := List.length_pos_iff.2 hne
      have hS := stand_ok q1 0 hp
      rw [hxb] at hS
      have HS := Lib.hid hS
      have HQ := Lib.hid (And.intro q2 (And.intro q3 (And.intro q4 (And.intro q5 (And.intro q6 (And.intro q8 (And.intro hp hT)))))))
      clear hS q1 q2 q3 q4 q5 q6 q7 q8 hp hne hT
      go_wp2_with (fail)
      go_must (refine HS.out.mono ?_)
      rintro e w2 ⟨rfl, r1, r2⟩
      have HR2 := Lib.hid (And.intro r1 r2)
      clear r1 r2
      go_wp2_with (fail)
      go_ret
      obtain ⟨q2, q3, q4, q5, q6, q8, hp, hT⟩ := HQ.out
      obtain ⟨h, hc, hn, hlt, hlen, hzl⟩ := HA.out
      rw [HR.out, if_pos (by omega)]
      exact ⟨rfl, x2, ⟨st2, its2, lo2, hi2, ps2, off2, lid2, 0, HR2.out.1, q3, ⟨_, q4⟩, q5, q6, hp, by omega⟩, ((CurK.of_below ((Below.refl w.heap.size w).drew)).trans q2).trans HR2.out.2⟩
    · rw [decide_eq_false hT] at hov
      simp only [Bool.false_eq_true, if_false] at hov
      obtain ⟨rfl, q1, q2⟩ := hov
      have HQ := Lib.hid (And.intro q1 (And.intro q2 hT))
      clear q1 q2 hT
      go_wp2_with (fail)
      go_ret
      obtain ⟨q1, q2, hT⟩ := HQ.out
      obtain ⟨h, hc, hn, hlt, hlen, hzl⟩ := HA.out
      rw [HR.out, if_neg (by omega)]
      exact ⟨rfl, _, ⟨_, _, _, q1⟩, (CurK.of_below ((Below.refl w.heap.size w).drew)).trans q2⟩

set_option maxHeartbeats 4000000 in
set_option maxRecDepth 100000 in
theorem prev_ok (i : Nat) (h : PgOk w p c most M cnt) (hc : CurPos w p x root M all i) (hn : ∀ j, c.S p j → ¬ x.S j) (hlow : Low M all) :
    Calls Tryz.prog 19 #[ptrV x.b] w (GoesP p x root M all (if 0 < i then some (i - 1) else none) w) := by
  obtain ⟨R, hR⟩ : ∃ R : Option Nat, R = if 0 < i then some (i - 1) else none := ⟨_, rfl⟩
  rw [← hR]
  have HR := Lib.hid hR
  clear hR
  obtain ⟨st, its, lo, hi, ps, off, lid, j, hc, hz, ⟨i2, hla⟩, hr, hs, hj, rfl⟩ := hc
  have HBad := Lib.hid (bad_not hc)
  have hlen := hla.item.1
  have hzl := hz.len
  have hl240 : its.length ≤ 240 := by have := layI_ge0 its; omega
  have c4 : w.cell? ⟨x.b, 4, none⟩ = some (.int .i64 (j : Int)) := hc.blk.cell 4
  have c5 : w.cell? ⟨x.b, 5, none⟩ = some (.bool true) := hc.blk.cell 5
  have hw : IntKind.i64.wrap ((j : Int) - 1) = (j : Int) - 1 := IntWalk.i64_in _ (by omega)
  by_cases hlt : 0 < j
  · have hlt' : (0 : Int) < (j : Int) := by omega
    have hS := stand_ok hc (j - 1) (by omega)
    rw [show ((j - 1 : Nat) : Int) = (j : Int) - 1 by omega] at hS
    have HS := Lib.hid hS
    have HA := Lib.hid (And.intro hz (And.intro hla (And.intro hr (And.intro hs (And.intro hlt (And.intro hlen (And.intro hzl hj)))))))
    clear hS hz hla hr hs hlt hlen hzl hc h hn hlow hj
    go_enter Tryz.func19, Tryz.ntmps19
    go_wp2_with (fail)
    go_must (refine HBad.out.mono ?_)
    rintro e w0 ⟨rfl, rfl⟩
    go_wp2_with (fail)
    go_must (refine HS.out.mono ?_)
    rintro e w1 ⟨rfl, q1, q2⟩
    have HQ := Lib.hid (And.intro q1 q2)
    clear q1 q2
    go_wp2_with (fail)
    go_ret
    obtain ⟨hz, hla, hr, hs, hlt, hlen, hzl, hj⟩ := HA.out
    rw [HR.out, if_pos (by omega)]
    exact ⟨rfl, x, ⟨st, its, lo, hi, ps, off, lid, j - 1, HQ.out.1, hz, ⟨_, hla⟩, hr, hs, by omega, by omega⟩, HQ.out.2⟩
  · have hlt' : ¬ (0 : Int) < (j : Int) := by omega
    have hO := overP_ok lid lo hi ps off off h hc hn hz hlow rfl
    have HO := Lib.hid hO
    have HA := Lib.hid (And.intro h (And.intro hc (And.intro hn (And.intro hlt (And.intro hlen (And.intro hzl hj))))))
    clear hO hz hla hr hs hlt hlen hzl hc h hn hlow hj
    go_enter Tryz.func19, Tryz.ntmps19
    go_wp2_with (fail)
    go_must (refine HBad.out.mono ?_)
    rintro e w0 ⟨rfl, rfl⟩
    go_wp2_with (fail)
    go_must (refine HO.out.mono ?_)
    rintro e w1 hov
    unfold OverP at hov
    by_cases hT : 0 < off
    · rw [decide_eq_true hT] at hov
      simp only [if_true] at hov
      obtain ⟨x2, st2, its2, lo2, hi2, ps2, off2, lid2, rfl, q1, q2, q3, ⟨i3, q4⟩, q5, q6, q7, q8⟩ := hov
      have hxb := q2.same
      have hlen2 := q4.item.1
      have hne : its2 ≠ [] := by
        by_cases h0 : st2 = []
        · subst h0
          obtain ⟨e1, e2⟩ := Zip.top q3
          obtain ⟨h, hc, hn, hlt, hlen, hzl, hj⟩ := HA.out
          subst e1
          rintro rfl
          simp at hlen2
          omega
        · exact q7 h0
      have hp := List.length_pos_iff.2 hne
      have hl240 : its2.length ≤ 240 := by have := layI_ge0 its2; omega
      have hS := stand_ok q1 (its2.length - 1) (by omega)
      rw [hxb, show ((its2.length - 1 : Nat) : Int) = (its2.length : Int) - 1 by omega] at hS
      have hit := q1.its
      unfold OwnsI at hit
      obtain ⟨Bi, di, hie, _⟩ := Sl.of_own hit
      have c3 : w1.cell? ⟨x.b, 3, none⟩ = some (.slice Bi its2.length di) := by rw [← hxb, ← hie]; exact q1.blk.cell 3
      have hw2 : IntKind.i64.wrap ((its2.length : Int) - 1) = (its2.length : Int) - 1 := IntWalk.i64_in _ (by omega)
      have HS := Lib.hid hS
      have HQ := Lib.hid (And.intro q2 (And.intro q3 (And.intro q4 (And.intro q5 (And.intro q6 (And.intro q8 (And.intro hp (And.intro hT hlen2))))))))
      clear hS q1 q2 q3 q4 q5 q6 q7 q8 hp hne hT hit hie hlen2
      go_wp2_with (fail)
      go_must (refine HS.out.mono ?_)
      rintro e w2 ⟨rfl, r1, r2⟩
      have HR2 := Lib.hid (And.intro r1 r2)
      clear r1 r2
      go_wp2_with (fail)
      go_ret
      obtain ⟨q2, q3, q4, q5, q6, q8, hp, hT, hlen2⟩ := HQ.out
      obtain ⟨h, hc, hn, hlt, hlen, hzl, hj⟩ := HA.out
      rw [HR.out, if_pos (by omega)]
      exact ⟨rfl, x2, ⟨st2, its2, lo2, hi2, ps2, off2, lid2, its2.length - 1, HR2.out.1, q3, ⟨_, q4⟩, q5, q6, by omega, by omega⟩, q2.trans HR2.out.2⟩
    · rw [decide_eq_false hT] at hov
      simp only [Bool.false_eq_true, if_false] at hov
      obtain ⟨rfl, q1, q2⟩ := hov
      have HQ := Lib.hid (And.intro q1 (And.intro q2 hT))
      clear q1 q2 hT
      go_wp2_with (fail)
      go_ret
      obtain ⟨q1, q2, hT⟩ := HQ.out
      obtain ⟨h, hc, hn, hlt, hlen, hzl, hj⟩ := HA.out
      rw [HR.out, if_neg (by omega)]
      exact ⟨rfl, _, ⟨_, _, _, q1⟩, q2⟩
end
end Go.Ev

set_option linter.unusedVariables false
set_option linter.unusedSimpArgs false
namespace Go.Ev
open Go.Proofs Go.RowKit

section
variable {p most cnt : Nat} {c : Pc} {M : Store} {all : List Pair} {x : Cc} {root : Int} {w : World} {st : List CStep} {items : List Item} {at' : Int} {on : Bool}

abbrev pairV (q : Pair) : Value := .agg #[strV q.1, strV q.2]

theorem pair_no (hc : CurAt w p x root st items at' false) : Calls Tryz.prog 20 #[ptrV x.b] w fun e w' => e = .returned (.tuple #[pairV ([], []), .bool false]) ∧ Below w.heap.size w w' := by
  have hb0 := (Below.refl w.heap.size w).alloc (Nat.le_refl _) (.cells #[strV [], strV []] 44)
  have hc0 := hc.below hb0
  have HBad := Lib.hid (bad_not hc0)
  have c5 : (w.alloc (.cells #[strV [], strV []] 44)).cell? ⟨x.b, 5, none⟩ = some (.bool false) := hc0.blk.cell 5
  have bx0 : Blk (w.alloc (.cells #[strV [], strV []] 44)) w.heap.size 44 #[strV [], strV []] := Blk.new _ _ _
  have HX := Lib.hid bx0
  have HB := Lib.hid hb0
  have q0 : (w.alloc (.cells #[strV [], strV []] 44)).cell? ⟨w.heap.size, 0, none⟩ = some (strV []) := bx0.cell 0
  have q1 : (w.alloc (.cells #[strV [], strV []] 44)).cell? ⟨w.heap.size, 1, none⟩ = some (strV []) := bx0.cell 1
  have p0 := bx0.frozen 0
  have p1 := bx0.frozen 1
  clear hc hc0 hb0 bx0
  go_enter Tryz.func20, Tryz.ntmps20
  go_wp2_with (fail)
  go_must (refine HBad.out.mono ?_)
  rintro e w0 ⟨rfl, rfl⟩
  go_wp2_with (fail)
  refine bodyPost_ret (res_row [strV [], strV []] rfl rfl rfl (by kernel_rfl) HX.out) rfl ?_
  exact ⟨rfl, HB.out⟩

set_option maxHeartbeats 4000000 in
set_option maxRecDepth 100000 in
theorem pair_ok (i : Nat) (h : PgOk w p c most M cnt) (hc : CurPos w p x root M all i) (hsh : Short all) :
    Calls Tryz.prog 20 #[ptrV x.b] w fun e w' => ∃ q, all[i]? = some q ∧ e = .returned (.tuple #[pairV q, .bool true]) ∧ Below w.heap.size w w' := by
  obtain ⟨st, its, lo, hi, ps, off, lid, j, hc, hz, ⟨i2, hla⟩, hr, hs, hj, rfl⟩ := hc
  obtain ⟨q, ids, hq, hkey, hval⟩ : ∃ q ids, all[off + j]? = some q ∧ its[j].key = q.1 ∧ ValAt M its[j] q.2 ids := by
    have hlen := hla.item.1
    obtain ⟨hkey, ids, hval⟩ := hla.item.2 j hj (by omega)
    obtain ⟨a, b, hall, hal, _⟩ := hz.pos
    refine ⟨ps[j]'(by omega), ids, ?_, hkey, hval⟩
    rw [hall, List.getElem?_append_right (by omega), hal, Nat.add_sub_cancel_left, List.getElem?_append_left (by omega), List.getElem?_eq_getElem (by omega)]
  have hsv := hsh _ (List.mem_of_getElem? hq)
  have hb0 := (Below.refl w.heap.size w).alloc (Nat.le_refl _) (.cells #[strV [], strV []] 44)
  have hc0 := hc.below hb0
  have HBad := Lib.hid (bad_not hc0)
  have c5 : (w.alloc (.cells #[strV [], strV []] 44)).cell? ⟨x.b, 5, none⟩ = some (.bool true) := hc0.blk.cell 5
  have hit := hc0.its
  unfold OwnsI at hit
  obtain ⟨Bi, di, hie, _⟩ := Sl.of_own hit
  have c3 : (w.alloc (.cells #[strV [], strV []] 44)).cell? ⟨x.b, 3, none⟩ = some (.slice Bi its.length di) := by rw [← hie]; exact hc0.blk.cell 3
  have c4 : (w.alloc (.cells #[strV [], strV []] 44)).cell? ⟨x.b, 4, none⟩ = some (.int .i64 (j : Int)) := hc0.blk.cell 4
  have c0 : (w.alloc (.cells #[strV [], strV []] 44)).cell? ⟨x.b, 0, none⟩ = some (ptrV p) := hc0.blk.cell 0
  rw [hie] at hit
  obtain ⟨_, _, e0, _, _, hcl⟩ := Sl.of_own hit
  cases e0
  obtain ⟨blk, o, rfl, hbl, hcell⟩ := hcl (by omega)
  obtain ⟨i0, i2', i1, i3⟩ := item_4 (w := w.alloc (.cells #[strV [], strV []] 44)) fun i u hu => item_cells (n := its.length) hcell hj i u hu
  have bx0 : Blk (w.alloc (.cells #[strV [], strV []] 44)) w.heap.size 44 #[strV [], strV []] := Blk.new _ _ _
  have hj0 : (0 : Int) ≤ (j : Int) := by omega
  have hj1 : (j : Int) < (its.length : Int) := by omega
  have HX := Lib.hid bx0
  have HB := Lib.hid hb0
  have HIE := Lib.hid hie
  have HA := Lib.hid (And.intro h (And.intro hval (And.intro hkey (And.intro hq (And.intro hsv hc0)))))
  have hlt : x.b < (w.alloc (.cells #[strV [], strV []] 44)).heap.size := hc0.blk.lt
  simp only [World.size_alloc] at hlt
  clear hc hz hla hr hs hq hsv hkey hval h hc0 hb0 bx0 hit hie hcl hcell
  generalize hit0 : its[j] = it at *
  clear hit0
  obtain ⟨ik, iv, io, isz⟩ := it
  simp only at i0 i1 i2' i3
  go_enter Tryz.func20, Tryz.ntmps20
  go_wp2_with (fail)
  go_must (refine HBad.out.mono ?_)
  rintro e w0 ⟨rfl, rfl⟩
  go_wp2_with (fail)
  refine wp_region_any (by kernel_rfl) ?_
  change wpAny _ _ _ _ _ _ _ (World.drew _)
  try simp only [Act.put, lT, l0, lS]
  refine tA 0 ?_; try simp only [Act.put, lT, l0, lS]
  refine tA 1 ?_; try simp only [Act.put, lT, l0, lS]
  refine tA 2 ?_; try simp only [Act.put, lT, l0, lS]
  refine tA 4 ?_; try simp only [Act.put, lT, l0, lS]
  refine tA 5 ?_; try simp only [Act.put, lT, l0, lS]
  refine tA 6 ?_; try simp only [Act.put, lT, l0, lS]
  try simp only [Act.put, lT, l0, lS]
  refine rA 3 (v := ?_) (hy := ?hy) ?_; case hy => (intro w hE; have q0 := hE.cell c3; go_simp; try with_reducible rfl)
  try simp only [Act.put, lT, l0, lS]
  try simp only [Act.put, lT, l0, lS]
  refine rA 7 (v := ?_) (hy := ?hy) ?_; case hy => (intro w hE; have q0 := hE.cell c4; go_simp; try with_reducible rfl)
  try simp only [Act.put, lT, l0, lS]
  try simp only [Act.put, lT, l0, lS]
  refine tA 8 ?_; try simp only [Act.put, lT, l0, lS]
  try simp only [Act.put, lT, l0, lS]
  refine rA 9 (v := ?_) (hy := ?hy) ?_; case hy => (intro w hE; have q0 := hE.cell i0; have q1 := hE.cell i1; have q2 := hE.cell i2'; have q3 := hE.cell i3; go_simp; try with_reducible rfl)
  try simp only [Act.put, lT, l0, lS]
  refine rd 10 (by kernel_rfl) rfl (fun K hK => ?_); go_simp; refine hK _ _ ?_; clear hK K
  refine rd 11 (by kernel_rfl) rfl (fun K hK => ?_); go_simp; refine hK _ _ ?_; clear hK K
  refine wpAny_done (by kernel_rfl) ?_ _
  obtain ⟨h, hval, hkey, hq, hsv, hc0⟩ := HA.out
  subst hkey
  obtain ⟨Wx, hWx⟩ : ∃ Wx, Wx = ((w.alloc (.cells #[strV [], strV []] 44)).alloc (.cells #[strV q.1, strV iv, .int .i64 io, .int .i64 isz] 107)).drew := ⟨_, rfl⟩
  have hb1 : Below (w.alloc (.cells #[strV [], strV []] 44)).heap.size (w.alloc (.cells #[strV [], strV []] 44)) Wx := by rw [hWx]; exact ((Below.refl _ _).alloc (Nat.le_refl _) _).drew
  have hbw : Below w.heap.size w Wx := HB.out.trans (hb1.mono (by simp))
  have hids := val_len hval hsv
  have hV := value_ok ⟨q.1, iv, io, isz⟩ q.2 ids Wx.drew ((h.below hbw).below ((Below.refl _ Wx).drew)) hval hsv (by omega)
  have d0 : Wx.cell? ⟨x.b, 0, none⟩ = some (ptrV p) := (Blk.below' hc0.blk hb1).cell 0
  have bit : Blk Wx (w.heap.size + 1) 107 #[strV q.1, strV iv, .int .i64 io, .int .i64 isz] := by
    rw [hWx]
    exact Blk.new' (by simp)
  have t0 : Wx.cell? ⟨w.heap.size + 1, 0, none⟩ = some (strV q.1) := bit.cell 0
  have t1 : Wx.cell? ⟨w.heap.size + 1, 1, none⟩ = some (strV iv) := bit.cell 1
  have t2 : Wx.cell? ⟨w.heap.size + 1, 2, none⟩ = some (.int .i64 io) := bit.cell 2
  have t3 : Wx.cell? ⟨w.heap.size + 1, 3, none⟩ = some (.int .i64 isz) := bit.cell 3
  have bp : Blk Wx w.heap.size 44 #[strV [], strV []] := Blk.below' HX.out hb1
  have hzx : w.heap.size + 1 < Wx.heap.size := bit.lt
  have HV := Lib.hid hV
  have HBW := Lib.hid (And.intro hbw (And.intro bit (And.intro bp hq)))
  simp only [← hWx]
  clear hV hbw hb1 hc0 hval hsv hids h hq bit bp c0 c3 c4 c5 i0 i1 i2' i3 hWx
  go_wp2_with (fail)
  refine wp_region_any (by kernel_rfl) ?_
  change wpAny _ _ _ _ _ _ _ (World.drew _)
  try simp only [Act.put, lT, l0, lS]
  refine tA 0 ?_; try simp only [Act.put, lT, l0, lS]
  refine tA 1 ?_; try simp only [Act.put, lT, l0, lS]
  refine tA 2 ?_; try simp only [Act.put, lT, l0, lS]
  try simp only [Act.put, lT, l0, lS]
  refine rA 3 (v := ?_) (hy := ?hy) ?_; case hy => (intro w hE; have q0 := hE.cell d0; go_simp; try with_reducible rfl)
  try simp only [Act.put, lT, l0, lS]
  try simp only [Act.put, lT, l0, lS]
  refine rA 4 (v := ?_) (hy := ?hy) ?_; case hy => (intro w hE; have q0 := hE.cell t0; have q1 := hE.cell t1; have q2 := hE.cell t2; have q3 := hE.cell t3; go_simp; try with_reducible rfl)
  try simp only [Act.put, lT, l0, lS]
  refine rd 5 (by kernel_rfl) rfl (fun K hK => ?_); go_simp
  (go_must (refine HV.out.mono ?_); rintro e w2 ⟨rfl, hb2⟩)
  go_simp
  refine hK _ _ ?_
  clear hK K
  try simp only [Act.put, lT, l0, lS]
  refine tA 6 ?_; try simp only [Act.put, lT, l0, lS]
  refine tA 7 ?_; try simp only [Act.put, lT, l0, lS]
  refine tA 8 ?_; try simp only [Act.put, lT, l0, lS]
  refine rd 9 (by kernel_rfl) rfl (fun K hK => ?_); go_simp; refine hK _ _ ?_; clear hK K
  refine rd 10 (by kernel_rfl) rfl (fun K hK => ?_); go_simp; refine hK _ _ ?_; clear hK K
  refine wpAny_done (by kernel_rfl) ?_ _
  obtain ⟨hbw, bit, bp, hq⟩ := HBW.out
  have hb2' : Below Wx.heap.size Wx w2 := ((Below.refl _ Wx).drew).trans hb2
  have bit2 := Blk.below' bit hb2'
  have bp2 := Blk.below' bp hb2'
  have s0 : w2.cell? ⟨w.heap.size + 1, 0, none⟩ = some (strV q.1) := bit2.cell 0
  have r0 : w2.cell? ⟨w.heap.size, 0, none⟩ = some (strV []) := bp2.cell 0
  have r1 : w2.cell? ⟨w.heap.size, 1, none⟩ = some (strV []) := bp2.cell 1
  have f0 := bp2.frozen 0
  have f1 := bp2.frozen 1
  have hbf : Blk ((w2.setCell ⟨w.heap.size, 0, none⟩ (strV q.1)).setCell ⟨w.heap.size, 1, none⟩ (strV q.2)) w.heap.size 44 #[strV q.1, strV q.2] := (bp2.set 0 (strV q.1)).set 1 (strV q.2)
  have hbe : Below w.heap.size w ((w2.setCell ⟨w.heap.size, 0, none⟩ (strV q.1)).setCell ⟨w.heap.size, 1, none⟩ (strV q.2)) := ((hbw.trans (hb2'.mono (by omega))).setCell (p := ⟨w.heap.size, 0, none⟩) (Nat.le_refl _) _).setCell (p := ⟨w.heap.size, 1, none⟩) (Nat.le_refl _) _
  have HBE := Lib.hid (And.intro hbe hq)
  have HBF := Lib.hid hbf
  clear hbw bit bp hq hb2' bit2 bp2 hbf hbe hb2
  go_wp2_with (fail)
  refine bodyPost_ret (res_row [strV q.1, strV q.2] rfl rfl rfl (by kernel_rfl) HBF.out) rfl ?_
  exact ⟨q, HBE.out.2, rfl, HBE.out.1⟩
end
end Go.Ev

set_option linter.unusedVariables false
set_option linter.unusedSimpArgs false
namespace Go.Ev
open Go.Proofs Go.RowKit

theorem aheadP_app {k : Bytes} : ∀ {a b : List Pair}, (∀ q ∈ a, lessB q.1 k = true) → aheadP k (a ++ b) = a.length + aheadP k b
  | [], b, _ => by simp
  | q :: a, b, h => by
    simp only [List.cons_append, aheadP, List.length_cons]
    rw [if_pos (h q (List.mem_cons_self ..)), aheadP_app fun z hz => h z (List.mem_cons_of_mem _ hz)]
    omega
theorem aheadP_stop {k : Bytes} : ∀ {a b : List Pair}, (∀ q ∈ b, lessB q.1 k = false) → aheadP k (a ++ b) = aheadP k a
  | [], [], _ => rfl
  | [], q :: b, h => by simp [aheadP, h q (List.mem_cons_self ..)]
  | q :: a, b, h => by
    simp only [List.cons_append, aheadP]
    rw [aheadP_stop h]
theorem ahead_leaf {M : Store} {k : Bytes} : ∀ {l : List Item} {ps : List Pair} {ids : List Int}, LeafAt M l ps ids → ahead k l = aheadP k ps
  | [], _, _, ⟨h, _⟩ => by subst h; rfl
  | x :: l, _, _, ⟨v, ps', i1, i2, h1, h2, h3, h4⟩ => by
    subst h1
    simp only [ahead, aheadP]
    rw [ahead_leaf h4]
theorem ahead_zip {M : Store} {all ps : List Pair} {id : Int} {lo : Bytes} {hi : Option Bytes} {off : Nat} {path : List (List Child × Nat)} {its : List Item} {i2 : List Int} {key : Bytes} (hz : Zip M 2 all 0 id lo hi ps off path) (hla : LeafAt M its ps i2) (hin : inR lo hi key) : aheadP key all = off + ahead key its := by
  obtain ⟨a, b, e1, e2, e3, e4⟩ := hz.pos
  rw [e1, aheadP_app fun q hq => lessB_of_lt_le (e3 q hq) hin.1, e2, aheadP_stop, ahead_leaf hla]
  intro q hq
  obtain ⟨u, hu, hl⟩ := e4 q hq
  cases hc : lessB q.1 key
  · rfl
  · have := lessB_trans hc (hin.2 u hu)
    rw [this] at hl
    cases hl

section
variable {p most cnt : Nat} {c : Pc} {M : Store} {all : List Pair} {x : Cc} {root : Int} {w : World} {st : List CStep} {items : List Item} {at' : Int} {on : Bool}

theorem seek_picks {key : Bytes} : Picks M all (fun L => findC key L) (fun lo hi _ _ => inR lo hi key) := by
  intro L lo hi ps off lo' hi' ps' off' hL h1 h2 h3 h4
  exact h3 key h4 rfl

set_option maxHeartbeats 4000000 in
set_option maxRecDepth 100000 in
theorem seek_ok (kk : Nat) (ids : List Int) (key : Bytes) (h : PgOk w p c most M cnt) (hT : TreeAt M 2 kk root [] none all ids) (hlow : Low M all) (hc : CurAt w p x root st items at' on) (hn : ∀ j, c.S p j → ¬ x.S j) :
    Calls Tryz.prog 16 #[ptrV x.b, strV key] w (GoesP p x root M all (if aheadP key all < all.length then some (aheadP key all) else none) w) := by
  obtain ⟨R, hR⟩ : ∃ R : Option Nat, R = if aheadP key all < all.length then some (aheadP key all) else none := ⟨_, rfl⟩
  rw [← hR]
  have HR := Lib.hid hR
  clear hR
  have hb0 := (Below.refl w.heap.size w).alloc (Nat.le_refl _) (.cells #[strV key] 9)
  have bk : Blk (w.alloc (.cells #[strV key] 9)) w.heap.size 9 #[strV key] := Blk.new _ _ _
  have hc0 := hc.below hb0
  have hkx : ¬ x.S w.heap.size := fun e => by have := hc.lt _ e; omega
  have HBad := Lib.hid (bad_not hc0)
  have HRe := Lib.hid (reset_ok hc0)
  have HH := Lib.hid (And.intro h (And.intro hT (And.intro hc (And.intro hn (And.intro hb0 (And.intro bk (And.intro hkx hlow)))))))
  clear h hT hc hn hc0 hb0 bk hkx hlow
  go_enter Tryz.func16, Tryz.ntmps16
  go_wp2_with (fail)
  go_must (refine HBad.out.mono ?_)
  rintro e w0 ⟨rfl, rfl⟩
  go_wp2_with (fail)
  go_must (refine HRe.out.mono ?_)
  rintro e w1 ⟨rfl, hc1, hk1⟩
  obtain ⟨h, hT, hc, hn, hb0, bk, hkx, hlow⟩ := HH.out
  have hk01 := (CurK.of_below (x := x) hb0).trans hk1
  have hpg1 := h.keeps hk01.keeps hn
  have hn1 := hk01.hn h hn
  have bk1 := bk.keeps hk1.keeps hkx
  have c1 : w1.cell? ⟨x.b, 1, none⟩ = some (.int .i64 root) := hc1.blk.cell 1
  have hkx1 : ¬ (⟨x.b, .slice none 0 0, .slice none 0 0⟩ : Cc).S w.heap.size := fun e => by
    rcases e with e | e
    · exact hkx (.inl e)
    · cases e
  have hD := down_ok 45 #[.pointer (some ⟨w.heap.size, 0, none⟩)] (fun L => findC key L) (fun lo hi _ _ => inR lo hi key) (enters_of Tryz.func45 (by kernel_rfl) rfl) (fun L hL => by
      cases L with
      | nil => exact absurd rfl hL
      | cons a b => exact findC_lt)
    (fun W A n d L hW hO hr hl hn => (seekpick_any A n d w.heap.size L key W ((bk1.keeps hW hkx1).cell 0) (by have := Sl.of_own hO; rw [hl] at this; exact this) (by omega) hr).mono fun e w' ⟨h1, h2⟩ => ⟨h1, h2 ▸ Below.refl _ _⟩) seek_picks
    kk root [] none all 0 [] [] 0 false hpg1 hc1 hn1 (.root hT) (by simpa using hlow kk _ _ hT) ⟨lessB_nil _, fun u hu => by cases hu⟩
  have HD := Lib.hid hD
  have HK := Lib.hid (And.intro hk01 bk1)
  clear h hT hc hn hb0 bk hkx hlow hc1 hk1 hk01 hpg1 hn1 hD bk1 hkx1
  go_wp2_with (fail)
  go_must (refine HD.out.mono ?_)
  rintro e w2 ⟨x2, st2, its, lo, hi, ps, off, lid, rfl, hc2, hk2, hz2, ⟨i2, hla⟩, hr, hs, hne, hq⟩
  have hxb : x2.b = x.b := hk2.same
  obtain ⟨h, hT, hc, hn, hb0, bk, hkx, hlow⟩ := HH.out
  obtain ⟨hk01, bk1⟩ := HK.out
  have hk02 := hk01.trans hk2
  have hpg2 := h.keeps hk02.keeps hn
  have hn2 := hk02.hn h hn
  have hkx1 : ¬ (⟨x.b, .slice none 0 0, .slice none 0 0⟩ : Cc).S w.heap.size := fun e => by
    rcases e with e | e
    · exact hkx (.inl e)
    · cases e
  have bk2 := bk1.keeps hk2.keeps hkx1
  have hahead := ahead_zip hz2 hla hq
  have hlen := hla.item.1
  have hl240 : its.length ≤ 240 := by have := layI_ge0 its; omega
  have hit := hc2.its
  unfold OwnsI at hit
  obtain ⟨Bi, di, hie, _⟩ := Sl.of_own hit
  have c3 : w2.cell? ⟨x.b, 3, none⟩ = some (.slice Bi its.length di) := by rw [← hxb, ← hie]; exact hc2.blk.cell 3
  have ck : w2.cell? ⟨w.heap.size, 0, none⟩ = some (strV key) := bk2.cell 0
  rw [hie] at hit
  have hF := findI_any Bi its.length di its key w2.drew (Sl.of_own hit) (by omega) hr
  have hF2 := Lib.hid hF
  have hale := ahead_le key its
  have HA := Lib.hid (And.intro hc2 (And.intro hk02 (And.intro hz2 (And.intro hla (And.intro hr (And.intro hs (And.intro hne (And.intro hpg2 (And.intro hn2 (And.intro hahead (And.intro hlen (And.intro hie hlow))))))))))))
  have hc3c : Hid (∀ W, Below w2.heap.size w2 W → W.cell? ⟨x.b, 3, none⟩ = some (.slice Bi its.length di)) := fun W hW => by rw [← hxb, ← hie]; exact (Blk.below' hc2.blk hW).cell 3
  clear h hT hc hn hb0 bk hkx hlow hk01 bk1 hk02 hpg2 hn2 hkx1 bk2 hahead hit hF hc2 hk2 hz2 hla hr hs hne hlen hie
  go_wp2_with (fail)
  refine wp_region_any (by kernel_rfl) ?_
  change wpAny _ _ _ _ _ _ _ (World.drew _)
  try simp only [Act.put, lT, l0, lS]
  refine tA 0 ?_; try simp only [Act.put, lT, l0, lS]
  refine tA 1 ?_; try simp only [Act.put, lT, l0, lS]
  refine tA 2 ?_; try simp only [Act.put, lT, l0, lS]
  try simp only [Act.put, lT, l0, lS]
  refine rA 3 (v := ?_) (hy := ?hy) ?_; case hy => (intro w hE; have q0 := hE.cell c3; go_simp; try with_reducible rfl)
  try simp only [Act.put, lT, l0, lS]
  try simp only [Act.put, lT, l0, lS]
  refine rA 4 (v := ?_) (hy := ?hy) ?_; case hy => (intro w hE; have q0 := hE.cell ck; go_simp; try with_reducible rfl)
  try simp only [Act.put, lT, l0, lS]
  refine rd 5 (by kernel_rfl) rfl (fun K hK => ?_); go_simp
  (go_must (refine hF2.out.mono ?_); rintro e w3 ⟨rfl, hb3⟩)
  go_simp
  refine hK _ _ ?_
  clear hK K
  try simp only [Act.put, lT, l0, lS]
  refine tA 6 ?_; try simp only [Act.put, lT, l0, lS]
  refine tA 7 ?_; try simp only [Act.put, lT, l0, lS]
  refine tA 8 ?_; try simp only [Act.put, lT, l0, lS]
  refine rd 9 (by kernel_rfl) rfl (fun K hK => ?_); go_simp; refine hK _ _ ?_; clear hK K
  refine rd 10 (by kernel_rfl) rfl (fun K hK => ?_); go_simp; refine hK _ _ ?_; clear hK K
  refine wpAny_done (by kernel_rfl) ?_ _
  obtain ⟨hc2, hk02, hz2, hla, hr, hs, hne, hpg2, hn2, hahead, hlen, hie, hlow⟩ := HA.out
  have hb23 : Below w2.heap.size w2 w3 := ((Below.refl _ w2).drew).trans hb3
  have hc3 := hc2.below hb23
  have c3' := hc3c.out w3 hb23
  by_cases hlt : ahead key its < its.length
  · have hlt' : ((ahead key its : Nat) : Int) < (its.length : Int) := by omega
    have hS := stand_ok hc3 (ahead key its) hlt
    rw [hxb] at hS
    have HS := Lib.hid hS
    have HB := Lib.hid hb23
    clear hS hc2 hk02 hz2 hla hr hs hne hpg2 hn2 hahead hlen hie hlow hb23 hc3 hb3
    go_wp2_with (fail)
    go_must (refine HS.out.mono ?_)
    rintro e w4 ⟨rfl, r1, r2⟩
    have HR2 := Lib.hid (And.intro r1 r2)
    clear r1 r2
    go_wp2_with (fail)
    go_ret
    obtain ⟨hc2, hk02, hz2, hla, hr, hs, hne, hpg2, hn2, hahead, hlen, hie, hlow⟩ := HA.out
    have hzl := hz2.len
    rw [HR.out, if_pos (by omega), hahead]
    exact ⟨rfl, x2, ⟨st2, its, lo, hi, ps, off, lid, ahead key its, HR2.out.1, hz2, ⟨_, hla⟩, hr, hs, hlt, rfl⟩, (hk02.trans (CurK.of_below HB.out)).trans HR2.out.2⟩
  · have hlt' : ¬ ((ahead key its : Nat) : Int) < (its.length : Int) := by omega
    have hO := overN_ok lid lo hi ps off (off + ps.length) (hpg2.below hb23) hc3 hn2 hz2 hlow rfl
    rw [hxb] at hO
    have HO := Lib.hid hO
    have HB := Lib.hid hb23
    clear hO hc2 hk02 hz2 hla hr hs hne hpg2 hn2 hahead hlen hie hlow hb23 hc3 hb3
    go_wp2_with (fail)
    go_must (refine HO.out.mono ?_)
    rintro e w4 hov
    unfold OverP at hov
    by_cases hT : off + ps.length < all.length
    · rw [decide_eq_true hT] at hov
      simp only [if_true] at hov
      obtain ⟨x3, st3, its3, lo3, hi3, ps3, off3, lid3, rfl, q1, q2, q3, ⟨i3, q4⟩, q5, q6, q7, q8⟩ := hov
      have hxb3 := q2.same.trans hxb
      have hlen3 := q4.item.1
      have hne3 : its3 ≠ [] := by
        by_cases h0 : st3 = []
        · subst h0
          obtain ⟨e1, e2⟩ := Zip.top q3
          rintro rfl
          subst e1
          simp at hlen3
          omega
        · exact q7 h0
      have hp := List.length_pos_iff.2 hne3
      have hS := stand_ok q1 0 hp
      rw [hxb3] at hS
      have HS := Lib.hid hS
      have HQ := Lib.hid (And.intro q2 (And.intro q3 (And.intro q4 (And.intro q5 (And.intro q6 (And.intro q8 (And.intro hp hT)))))))
      clear hS q1 q2 q3 q4 q5 q6 q7 q8 hp hne3 hT hlen3
      go_wp2_with (fail)
      go_must (refine HS.out.mono ?_)
      rintro e w5 ⟨rfl, r1, r2⟩
      have HR2 := Lib.hid (And.intro r1 r2)
      clear r1 r2
      go_wp2_with (fail)
      go_ret
      obtain ⟨q2, q3, q4, q5, q6, q8, hp, hT⟩ := HQ.out
      obtain ⟨hc2, hk02, hz2, hla, hr, hs, hne, hpg2, hn2, hahead, hlen, hie, hlow⟩ := HA.out
      rw [HR.out, if_pos (by omega), hahead]
      exact ⟨rfl, x3, ⟨st3, its3, lo3, hi3, ps3, off3, lid3, 0, HR2.out.1, q3, ⟨_, q4⟩, q5, q6, hp, by omega⟩, ((hk02.trans (CurK.of_below HB.out)).trans q2).trans HR2.out.2⟩
    · rw [decide_eq_false hT] at hov
      simp only [Bool.false_eq_true, if_false] at hov
      obtain ⟨rfl, q1, q2⟩ := hov
      have HQ := Lib.hid (And.intro q1 (And.intro q2 hT))
      clear q1 q2 hT
      go_wp2_with (fail)
      go_ret
      obtain ⟨q1, q2, hT⟩ := HQ.out
      obtain ⟨hc2, hk02, hz2, hla, hr, hs, hne, hpg2, hn2, hahead, hlen, hie, hlow⟩ := HA.out
      rw [HR.out, if_neg (by omega)]
      exact ⟨rfl, _, ⟨_, _, _, q1⟩, (hk02.trans (CurK.of_below HB.out)).trans q2⟩
end
end Go.Ev

set_option linter.unusedVariables false
set_option linter.unusedSimpArgs false
namespace Go.Ev

/-- Behind the last one: what a range's walk says. -/
def stopR (hi : Bytes) (most : Int) (n : Nat) (q : Pair) : Bool := (decide (hi ≠ []) && !lessB q.1 hi) || (decide (0 < most) && decide (most ≤ (n : Int)))

def goR (hi : Bytes) (most : Int) : Nat → List Pair → List Pair
  | _, [] => []
  | n, q :: l => if stopR hi most n q then [] else q :: goR hi most (n + 1) l

/-- A range, as a cursor walks it. -/
def rangeP (lo hi : Bytes) (most : Int) (ps : List Pair) : List Pair := goR hi most 0 (ps.drop (aheadP lo ps))

/-- A range, as the document takes it. -/
def refR (lo hi : Bytes) (most : Int) : Nat → List Pair → List Pair
  | _, [] => []
  | n, q :: l => if lessB q.1 lo || stopR hi most n q then refR lo hi most n l else q :: refR lo hi most (n + 1) l

theorem rising_tail {q : Pair} {l : List Pair} (h : Rising (q :: l)) : Rising l ∧ ∀ p ∈ l, lessB q.1 p.1 = true := by
  have := Rising.append.1 (show Rising ([q] ++ l) from h)
  exact ⟨this.2.1, fun p hp => this.2.2 q (by simp) p hp⟩

theorem goR_len (hi : Bytes) (most : Int) : ∀ (n : Nat) (l : List Pair), (goR hi most n l).length ≤ l.length
  | _, [] => Nat.le_refl _
  | n, q :: l => by
    simp only [goR]
    split
    · simp
    · simpa using goR_len hi most (n + 1) l

/-- Once a range has stopped, the document's takes no more. -/
theorem refR_stop {lo hi : Bytes} {most : Int} : ∀ (n : Nat) (l : List Pair), (∀ q ∈ l, stopR hi most n q = true) → refR lo hi most n l = []
  | _, [], _ => rfl
  | n, q :: l, h => by
    simp only [refR, h q (List.mem_cons_self ..), Bool.or_true, if_true]
    exact refR_stop n l fun p hp => h p (List.mem_cons_of_mem _ hp)

theorem stopR_later {hi : Bytes} {most : Int} {n : Nat} {q p : Pair} (h : stopR hi most n q = true) (hl : lessB q.1 p.1 = true) : stopR hi most n p = true := by
  unfold stopR at h ⊢
  simp only [Bool.or_eq_true, Bool.and_eq_true, decide_eq_true_eq, Bool.not_eq_true'] at h ⊢
  refine h.imp (fun ⟨h1, h2⟩ => ⟨h1, ?_⟩) id
  cases hc : lessB p.1 hi
  · rfl
  · rw [lessB_trans hl hc] at h2
    cases h2

theorem refR_from {lo hi : Bytes} {most : Int} : ∀ (n : Nat) (l : List Pair), Rising l → (∀ q ∈ l, lessB q.1 lo = false) → refR lo hi most n l = goR hi most n l
  | _, [], _, _ => rfl
  | n, q :: l, hr, h => by
    obtain ⟨hr', hq⟩ := rising_tail hr
    simp only [refR, goR, h q (List.mem_cons_self ..), Bool.false_or]
    cases hs : stopR hi most n q with
    | true =>
      simp only [if_true]
      exact refR_stop n l fun p hp => stopR_later hs (hq p hp)
    | false =>
      simp only [Bool.false_eq_true, if_false, List.cons.injEq, true_and]
      exact refR_from (n + 1) l hr' fun p hp => h p (List.mem_cons_of_mem _ hp)

theorem ref_range {lo hi : Bytes} {most : Int} : ∀ (l : List Pair), Rising l → refR lo hi most 0 l = rangeP lo hi most l
  | [], _ => rfl
  | q :: l, hr => by
    obtain ⟨hr', hq⟩ := rising_tail hr
    unfold rangeP
    cases hc : lessB q.1 lo with
    | true =>
      simp only [refR, hc, Bool.true_or, if_true, aheadP, List.drop_succ_cons]
      exact ref_range l hr'
    | false =>
      simp only [aheadP, hc, Bool.false_eq_true, if_false, List.drop_zero]
      refine refR_from 0 (q :: l) hr fun p hp => ?_
      rcases List.mem_cons.1 hp with rfl | hp
      · exact hc
      · cases h2 : lessB p.1 lo
        · rfl
        · rw [lessB_trans (hq p hp) h2] at hc
          cases hc

/-- Without a bound. -/
theorem stopR_free (hi : Bytes) (n : Nat) (q : Pair) : stopR hi 0 n q = (decide (hi ≠ []) && !lessB q.1 hi) := by simp [stopR]

theorem goR_free (hi : Bytes) : ∀ (n m : Nat) (l : List Pair), goR hi 0 n l = goR hi 0 m l
  | _, _, [] => rfl
  | n, m, q :: l => by
    simp only [goR, stopR_free]
    rw [goR_free hi (n + 1) (m + 1) l]

theorem goR_bound (hi : Bytes) (most : Nat) (h : 0 < most) : ∀ (n : Nat) (l : List Pair), goR hi most n l = (goR hi 0 n l).take (most - n)
  | _, [] => by simp [goR]
  | n, q :: l => by
    have e1 : stopR hi most n q = ((decide (hi ≠ []) && !lessB q.1 hi) || decide (most ≤ n)) := by
      have h1 : (0 : Int) < (most : Int) := by omega
      have h2 : decide ((most : Int) ≤ (n : Int)) = decide (most ≤ n) := by
        by_cases hm : most ≤ n
        · rw [decide_eq_true hm, decide_eq_true (by omega)]
        · rw [decide_eq_false hm, decide_eq_false (by omega)]
      unfold stopR
      rw [h2, decide_eq_true h1, Bool.true_and]
    simp only [goR, stopR_free, e1]
    cases hc : (decide (hi ≠ []) && !lessB q.1 hi) with
    | true => simp
    | false =>
      by_cases hm : most ≤ n
      · simp [hm]
      · simp only [hm, decide_false, Bool.or_false, Bool.false_eq_true, if_false]
        rw [goR_bound hi most h (n + 1) l, show most - n = (most - (n + 1)) + 1 by omega]
        rfl

/-- A range in two parts. -/
theorem goR_parts {mid hi : Bytes} (h0 : mid ≠ []) (h1 : hi ≠ []) (h2 : lessB hi mid = false) : ∀ (l : List Pair), Rising l → goR mid 0 0 l ++ goR hi 0 0 (l.drop (aheadP mid l)) = goR hi 0 0 l
  | [], _ => rfl
  | q :: l, hr => by
    obtain ⟨hr', hq⟩ := rising_tail hr
    have e1 : stopR mid 0 0 q = !lessB q.1 mid := by simp [stopR, h0]
    have e2 : stopR hi 0 0 q = !lessB q.1 hi := by simp [stopR, h1]
    simp only [goR, e1, e2, aheadP]
    cases hc : lessB q.1 mid with
    | true =>
      have : lessB q.1 hi = true := lessB_of_lt_le hc h2
      simp only [this, Bool.not_true, Bool.false_eq_true, if_false, if_true, List.drop_succ_cons, List.cons_append, List.cons.injEq, true_and]
      rw [goR_free mid 1 0, goR_free hi 1 0]
      exact goR_parts h0 h1 h2 l hr'
    | false =>
      simp only [Bool.not_false, if_true, Bool.false_eq_true, if_false, List.drop_zero, List.nil_append]
      simp only [goR, e2]

theorem aheadP_drop_le {lo mid : Bytes} (h : lessB mid lo = false) : ∀ (l : List Pair), Rising l → aheadP mid l = aheadP lo l + aheadP mid (l.drop (aheadP lo l))
  | [], _ => rfl
  | q :: l, hr => by
    obtain ⟨hr', hq⟩ := rising_tail hr
    cases hc : lessB q.1 lo with
    | true =>
      have h2 : lessB q.1 mid = true := lessB_of_lt_le hc h
      simp only [aheadP, hc, h2, if_true, List.drop_succ_cons]
      rw [aheadP_drop_le h l hr']
      omega
    | false =>
      have e : aheadP lo (q :: l) = 0 := by simp [aheadP, hc]
      rw [e]
      simp

theorem Rising.drop {l : List Pair} (h : Rising l) (n : Nat) : Rising (l.drop n) := by
  have := h
  rw [← List.take_append_drop n l, Rising.append] at this
  exact this.2.1

theorem range_parts {lo mid hi : Bytes} {ps : List Pair} (hr : Rising ps) (h0 : mid ≠ []) (h1 : hi ≠ []) (h2 : lessB mid lo = false) (h3 : lessB hi mid = false) : rangeP lo mid 0 ps ++ rangeP mid hi 0 ps = rangeP lo hi 0 ps := by
  unfold rangeP
  have := goR_parts h0 h1 h3 (ps.drop (aheadP lo ps)) (hr.drop _)
  rw [List.drop_drop, ← aheadP_drop_le h2 ps hr] at this
  exact this

theorem range_bound {lo hi : Bytes} {ps : List Pair} {most : Nat} (h : 0 < most) : rangeP lo hi most ps = (rangeP lo hi 0 ps).take most := goR_bound hi most h 0 _
end Go.Ev
