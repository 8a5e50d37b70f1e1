/-
  The law arboretumlaw11.TreeGone, walked over the contracts of all that it calls. The law arboretumlaw11.TreeGone holds, whatever steps it is handed, and whether all is dropped or taken out again: its text is walked over the contracts of all that it calls; conditions: the row's own (the listed variables are as the program's text lays them). The law arboretumlaw11.TreeGone holds, whatever steps it is handed, and whether all is dropped or taken out again: its text is walked over the contracts of all that it calls; conditions: the row's own (the listed variables are as the program's text lays them).
-/
import Derived.Test.YtijlmjfemedjdaaGreatDoorMGGvAny2
import Derived.Test.YtijlmjfemedjdaaGreatDoorMGGwStep
import Derived.Test.YtijlmjfemedjdaaGreatDoorMGGwDropT
import Derived.Test.YtijlmjfemedjdaaGreatDoorMGGwAlive11
import Derived.Test.YtijlmjfemedjdaaGreatDoorMGGwRefPut
import Derived.Carry
import Derived.Test.YtijlmjfemedjdaaGreatDoorTie
import Derived.Test.YtijlmjfemedjdaaGreatDoorCards
import Derived.ProofKit
import Derived.OpenShut
import Derived.ChangeMaps5
import Derived.LaidMore
import Derived.Lay
import Derived.SevenTiedAt
import Derived.Stop.Joined
set_option linter.unusedVariables false
set_option linter.unusedSimpArgs false
set_option linter.unusedVariables false
set_option linter.unusedSimpArgs false
namespace Go.Ev
open Go.Proofs Go.RowKit

/-- A pager and its tree, and a row of pairs beside it. -/
structure Gq (B p : Nat) (all : List Pair) (x : Value) (m : Nat) (root : Int) (ps : List Pair) (n : Nat) (W : World) : Prop where
 ex : ∃ c M ids, PgOk W p c 3000 M ids.length ∧ TreeH M root ps ids n ∧ (∀ k, c.S p k → B ≤ k) ∧ ∀ k, x.ownBlock = some k → ¬ c.S p k
 own : W.ownsRow B 48 2 x m (pairsCs all)
 size : B ≤ W.heap.size

section
variable {B p n m : Nat} {root : Int} {ps all all' : List Pair} {x : Value} {W W1 W' : World}

theorem Gq.gh (h : Gq B p all x m root ps n W) : Gh B p root ps n W := by
 obtain ⟨c, M, ids, h1, h2, h3, _⟩ := h.ex
 exact ⟨⟨c, M, ids, h1, h2, h3⟩, h.size⟩
theorem Gq.below (h : Gq B p all x m root ps n W) (hb : Below W.heap.size W W') : Gq B p all x m root ps n W' := by
 obtain ⟨c, M, ids, h1, h2, h3, h4⟩ := h.ex
 exact ⟨⟨c, M, ids, h1.below hb, h2, h3, h4⟩, own_below h.own hb, Nat.le_trans h.size hb.size⟩

/-- A row anew. -/
theorem Gq.newRow {u : Value} {m' : Nat} (h : Gq B p all x m root ps n W) (hb : Below W.heap.size W W') (hu : W'.ownsRow W.heap.size 48 2 u m' (pairsCs all')) : Gq B p all' u m' root ps n W' := by
 obtain ⟨c, M, ids, h1, h2, h3, h4⟩ := h.ex
 exact ⟨⟨c, M, ids, h1.below hb, h2, h3, fun k hk e => by have := (hu.lt k hk).1; have := h1.lt k e; omega⟩, own_base hu h.size, Nat.le_trans h.size hb.size⟩

/-- What a change comes to. -/
def GqP (B p : Nat) (all : List Pair) (x : Value) (m : Nat) (ps' : List Pair) (n' : Nat) (W : World) (e : Ending) (W' : World) : Prop :=
 ∃ r, e = .returned (.tuple #[.int .i64 r, .int .i64 0]) ∧ Gq B p all x m r ps' n' W' ∧ Below B W W'

theorem PutGP.gq {c : Pc} {M : Store} {ids : List Int} {ps' : List Pair} {n' : Nat} {e : Ending} (h : PutGP p c 3000 M ids.length ids ps' n' W e W') (hS : ∀ k, c.S p k → B ≤ k) (hB : B ≤ W.heap.size) (hx : ∀ k, x.ownBlock = some k → ¬ c.S p k) (ho : W.ownsRow B 48 2 x m (pairsCs all)) :
  GqP B p all x m ps' n' W e W' := by
 obtain ⟨r, M', c', cnt', ids', rfl, h1, h2, h3, h4, h5, hK⟩ := h
 obtain rfl : cnt' = ids'.length := by omega
 refine ⟨r, rfl, ⟨⟨c', M', ids', h2, h1, fun k hk => (hK.sub k hk).elim (hS k) fun e => Nat.le_trans hB e, fun k hk e => ?_⟩, own_keeps ho hK.keeps hx, Nat.le_trans hB hK.keeps.size⟩, hK.keeps.below hB fun i hi e => by have := hS i e; omega⟩
 rcases hK.sub k e with e | e
 ·exact hx k hk e
 ·have := (ho.lt k hk).2; omega

theorem Gq.put (h : Gq B p all x m root ps n W) (key v : Bytes) (hg : goodKV key v = true) (hn : n ≤ 250) (hl : ps.length ≤ 250) (hv : sumV ps ≤ 60000) :
  Calls Tryz.prog 16 #[ptrV p, .int .i64 root, strV key, strV v] W (GqP B p all x m (insP key v ps) (n + 1) W) := by
 obtain ⟨c, M, ids, h1, h2, h3, h4⟩ := h.ex
 obtain ⟨g1, g2, g3⟩ := goodKV_of hg
 have hpg := h2.pages hn hv hl
 exact (treePutG_ok root key v ps ids n h1 h2 g1 g2 g3 (by omega) (by omega) (.inl (by omega))).mono fun e w' hp => hp.gq h3 h.size h4 h.own

theorem Gq.del (h : Gq B p all x m root ps n W) (key : Bytes) (g1 : 1 ≤ key.length) (g2 : key.length ≤ 40) (hin : (getP key ps).isSome = true) (hn : n ≤ 250) (hl : ps.length ≤ 250) (hv : sumV ps ≤ 60000) :
  Calls Tryz.prog 19 #[ptrV p, .int .i64 root, strV key] W (GqP B p all x m (delP key ps) n W) := by
 obtain ⟨c, M, ids, h1, h2, h3, h4⟩ := h.ex
 have hpg := h2.pages hn hv hl
 exact (treeDelG_ok root key ps ids n h1 h2 g1 g2 hin (by omega) (by omega) (.inl (by omega))).mono fun e w' hp => hp.gq h3 h.size h4 h.own
end

theorem growP_sum : ∀ (l : List (Bytes × Bytes)) (t : List Pair), sumV (growP l t) ≤ sumV t + (l.map fun o => o.1.length + o.2.length).sum
 | [], t => by simp [growP]
 | o :: l, t => by
  simp only [growP, List.map_cons, List.sum_cons]
  have h0 := sumV_ins o.1 o.2 t
  split
  ·have := growP_sum l (insP o.1 o.2 t); omega
  ·have := growP_sum l t; omega

/-- The pairs that the steps of kind 1 make. -/
def putsOf : List OpL → List Pair → List Pair
 | [], t => t
 | o :: l, t => putsOf l (if o.kind = 1 ∧ goodKV o.key o.val = true then insP o.key o.val t else t)
theorem putsOf_app : ∀ (a b : List OpL) (t : List Pair), putsOf (a ++ b) t = putsOf b (putsOf a t)
 | [], _, _ => rfl
 | o :: a, b, t => by simp only [List.cons_append, putsOf]; exact putsOf_app a b _
theorem puts_take {ops : List OpL} {i : Nat} (h : i < ops.length) (t : List Pair) : putsOf (ops.take (i + 1)) t = if ops[i].kind = 1 ∧ goodKV ops[i].key ops[i].val = true then insP ops[i].key ops[i].val (putsOf (ops.take i) t) else putsOf (ops.take i) t := by
 rw [(List.take_append_getElem h).symm, putsOf_app]
 rfl
theorem putsOf_good : ∀ {l : List OpL} {t : List Pair}, GoodP t → GoodP (putsOf l t)
 | [], _, h => h
 | o :: l, t, h => by
  simp only [putsOf]
  split
  ·rename_i hg
   exact putsOf_good fun q hq => by
    rcases insP_mem hq with rfl | hq
    ·exact hg.2
    ·exact h q hq
  ·exact putsOf_good h
theorem putsOf_rising : ∀ {l : List OpL} {t : List Pair}, Rising t → Rising (putsOf l t)
 | [], _, h => h
 | o :: l, t, h => by
  simp only [putsOf]
  split
  ·exact putsOf_rising (insP_rising h)
  ·exact putsOf_rising h
theorem putsOf_len : ∀ (l : List OpL) (t : List Pair), (putsOf l t).length ≤ t.length + l.length
 | [], t => by simp [putsOf]
 | o :: l, t => by
  simp only [putsOf, List.length_cons]
  have := (insP_len (k := o.key) (v := o.val) t).1
  split
  ·have h := putsOf_len l (insP o.key o.val t)
   omega
  ·have h := putsOf_len l t
   omega
theorem putsOf_sum : ∀ (l : List OpL) (t : List Pair), sumV (putsOf l t) ≤ sumV t + sumO l
 | [], t => by simp [putsOf, sumO]
 | o :: l, t => by
  simp only [putsOf, sumO]
  have h0 := sumV_ins o.key o.val t
  split
  ·have := putsOf_sum l (insP o.key o.val t); omega
  ·have := putsOf_sum l t; omega

/-- One by one from the front, or from the end. -/
theorem del_front {t : List Pair} {i : Nat} {q : Pair} (hq : t[i]? = some q) : (getP q.1 (t.drop i)).isSome = true ∧ delP q.1 (t.drop i) = t.drop (i + 1) := by
 obtain ⟨hlt, he⟩ := List.getElem?_eq_some_iff.1 hq
 rw [List.drop_eq_getElem_cons hlt, he]
 simp [getP, delP]
theorem del_back {t : List Pair} {i : Nat} {q : Pair} (hr : Rising t) (hq : t[i]? = some q) : (getP q.1 (t.take (i + 1))).isSome = true ∧ delP q.1 (t.take (i + 1)) = t.take i := by
 obtain ⟨hlt, he⟩ := List.getElem?_eq_some_iff.1 hq
 have hne : ∀ p ∈ t.take i, p.1 ≠ q.1 := fun p hp => lessB_ne ((rising_splitT hr hq).1 p hp)
 rw [(List.take_append_getElem hlt).symm, he, getP_pre hne, delP_pre hne]
 simp [getP, delP]
theorem sumV_take (t : List Pair) (i : Nat) : sumV (t.take i) ≤ sumV t := by
 have : sumV t = sumV (t.take i ++ t.drop i) := by rw [List.take_append_drop]
 rw [this, sumV_app]
 omega
theorem sumV_drop (t : List Pair) (i : Nat) : sumV (t.drop i) ≤ sumV t := by
 have : sumV t = sumV (t.take i ++ t.drop i) := by rw [List.take_append_drop]
 rw [this, sumV_app]
 omega

set_option maxHeartbeats 16000000 in
set_option maxRecDepth 100000 in
theorem gone_walk (hAl : ∀ W, Calls Tryz.prog 9 #[] W (TrueB W)) (A : Option Addr) (n c : Nat) (back : Bool) (ops : List OpL) (w : World) (h : OpsAt w (.slice A n c) ops) :
  Calls Tryz.prog 4 #[.slice A n c, .bool back] w (TrueB w) := by
 have HL := Lib.hid (light_sum A n c ops w h)
 have HAl := Lib.hid hAl
 obtain ⟨hv, hml, hlen⟩ := h
 have hnn : n = ops.length := by obtain ⟨_, _, e, _⟩ := hv; cases e; rfl
 subst hnn
 have HLen := Lib.hid hlen
 have HV := Lib.hid hv
 clear hlen hml hv hAl
 go_enter Tryz.func4, Tryz.ntmps4
 go_wp2_with (fail)
 go_must (refine HL.out.mono ?_)
 rintro e w1 ⟨bl, rfl, hlight, hb1⟩
 have HB1 := Lib.hid hb1
 cases bl with
 | false =>
  clear hlight hb1
  go_wp2_with (fail)
  go_must (refine (HAl.out _).mono ?_)
  rintro e w2 ⟨rfl, hb2⟩
  go_wp2_with (fail)
  go_ret
  exact ⟨rfl, HB1.out.trans (hb2.mono HB1.out.size)⟩
 | true =>
  obtain ⟨hl1, hl2⟩ := hlight rfl
  have HS := Lib.hid hl2
  clear hlight hb1 hl2
  go_wp2_with (fail)
  go_must (refine (begin_any w1).mono ?_)
  rintro e w2 ⟨d, f, p, pc, root, rfl, hp, hs, hb2⟩
  have hT0 : Gq w.heap.size p [] (.slice none 0 0) 0 root [] 0 w2 := ⟨⟨pc, _, [root], hp, TreeH.new (by simp [updS]), fun k hk => Nat.le_trans HB1.out.size (hs k hk), fun k hk => (by cases hk)⟩, World.ownsRow_nil _ _ _ _, Nat.le_trans HB1.out.size hb2.size⟩
  have HT0 := Lib.hid hT0
  have HB2 := Lib.hid (HB1.out.trans (hb2.mono HB1.out.size))
  clear hT0 hp hs hb2
  go_wp2_with (fail)
  go_loopg [8, 10, 11] ops.length (fun gk s8 s10 s11 wr => ∃ (r : Int) (i n : Nat), s8 = .int .i64 r ∧ s11 = .int .i64 (i : Int) ∧ i + gk = ops.length ∧ n ≤ i ∧ Hid (Gq w.heap.size p (putsOf (ops.take i) []) s10 (putsOf (ops.take i) []).length r (putsOf (ops.take i) []) n wr) ∧ Hid (Below w.heap.size w wr))
  case atStart => exact ⟨root, 0, 0, rfl, rfl, by omega, by omega, HT0.out, HB2.out⟩
  case round =>
   clear HT0 HB2
   obtain ⟨r, i, n, rfl, rfl, hi, hni, hg, hbw⟩ := hrel
   by_cases h1 : i < ops.length
   ·have h1' : (i : Int) < (ops.length : Int) := by omega
    have hi0 : (0 : Int) ≤ (i : Int) := by omega
    have hw1 : IntKind.i64.wrap ((i : Int) + 1) = (i : Int) + 1 := IntWalk.i64_in _ (by omega)
    obtain ⟨A', c', e0, _, _, hcl⟩ := HV.out.below hbw.out
    cases e0
    obtain ⟨blk, off, rfl, hbl, hcell⟩ := hcl (by omega)
    obtain ⟨p0, p1, p2⟩ := opsCs_at ops i h1
    have x0 : wr.cell? ⟨blk, off + i * 3, none⟩ = _ := hcell _ _ p0
    have x1 : wr.cell? ⟨blk, off + i * 3 + 1, none⟩ = _ := hcell _ _ p1
    have x2 : wr.cell? ⟨blk, off + i * 3 + 2, none⟩ = _ := hcell _ _ p2
    obtain ⟨m1, m2⟩ := HLen.out _ (List.getElem_mem h1)
    unfold maxLen at m1 m2
    have hst := puts_take h1 []
    have hgl : (putsOf (ops.take i) []).length ≤ i := by
     have := putsOf_len (ops.take i) []
     simp only [List.length_take, List.length_nil] at this
     omega
    have hgg : GoodP (putsOf (ops.take i) []) := putsOf_good fun q hq => by cases hq
    have hgs : sumV (putsOf (ops.take i) []) ≤ 60000 := by
     have h2 := putsOf_sum (ops.take i) []
     have h3 := sumO_take_le ops i
     have h4 := HS.out
     simp only [sumV] at h2
     omega
    have HST := Lib.hid hst
    clear hst p0 p1 p2
    have HX : Hid (∀ W, Below wr.heap.size wr W → Sl W 3 (.slice (some ⟨blk, off, none⟩) ops.length c) ops.length (opsCs ops)) := fun W hW => (HV.out.below (hbw.out.trans (hW.mono hbw.out.size)))
    have HP12 := Lib.hid (opsCs_at ops i h1)
    clear hcl hcell
    generalize hk0 : ops[i].kind = kind at *
    generalize hk1 : ops[i].key = key at *
    generalize hk2 : ops[i].val = val at *
    generalize ht0 : putsOf (ops.take i) [] = t at *
    clear hk0 hk1 hk2 ht0
    have hown := hg.out.own
    obtain ⟨X, cx, rfl, _⟩ := Sl.of_own hown
    by_cases hkd : kind = 1
    ·subst hkd
     cases hgd : goodKV key val with
     | true =>
      obtain ⟨g1, g2, g3⟩ := goodKV_of hgd
      rw [hgd, if_pos ⟨rfl, rfl⟩] at HST
      have HP := Lib.hid ((hg.out.below (Below.refl _ wr).drew).put key val hgd (by omega) (by omega) hgs)
      clear hgs m1 m2 hown
      go_wp2_with (fail)
      refine wp_region_any (by kernel_rfl) ?_
      change wpAny _ _ _ _ _ _ _ (World.drew _)
      try simp only [Act.put, lT, l0, lS]
      refine tA 0 ?_; try simp only [Act.put, lT, l0, lS]
      refine tA 1 ?_; try simp only [Act.put, lT, l0, lS]
      refine tA 2 ?_; try simp only [Act.put, lT, l0, lS]
      refine tA 3 ?_; try simp only [Act.put, lT, l0, lS]
      refine tA 4 ?_; try simp only [Act.put, lT, l0, lS]
      refine tA 5 ?_; try simp only [Act.put, lT, l0, lS]
      refine tA 7 ?_; try simp only [Act.put, lT, l0, lS]
      refine tA 8 ?_; try simp only [Act.put, lT, l0, lS]
      refine tA 9 ?_; try simp only [Act.put, lT, l0, lS]
      refine tA 10 ?_; try simp only [Act.put, lT, l0, lS]
      try simp only [Act.put, lT, l0, lS]
      refine rA 6 (v := ?_) (hy := ?hy) ?_; case hy => (intro w hE; have q0 := hE.cell x1; go_simp; try with_reducible rfl)
      try simp only [Act.put, lT, l0, lS]
      try simp only [Act.put, lT, l0, lS]
      refine rA 11 (v := ?_) (hy := ?hy) ?_; case hy => (intro w hE; have q0 := hE.cell x2; go_simp; try with_reducible rfl)
      try simp only [Act.put, lT, l0, lS]
      refine rd 12 (by kernel_rfl) rfl (fun K hK => ?_); go_simp
      (go_must (refine HP.out.mono ?_); intro e w3 hput)
      obtain ⟨r', rfl, hG', hb3⟩ := hput
      have HG' := Lib.hid hG'
      have HB3 := Lib.hid (hbw.out.drew.trans hb3)
      have hXX := (HV.out.below (hbw.out.drew.trans hb3))
      obtain ⟨_, _, e0, _, _, hcl⟩ := hXX
      cases e0
      obtain ⟨_, _, e1, _, hcell⟩ := hcl (by omega)
      cases e1
      have y1 : w3.cell? ⟨blk, off + i * 3 + 1, none⟩ = some (strV key) := hcell _ _ HP12.out.2.1
      have y2 : w3.cell? ⟨blk, off + i * 3 + 2, none⟩ = some (strV val) := hcell _ _ HP12.out.2.2
      have HF := Lib.hid (refPut_any _ _ t key val w3.drew (own_below hG'.own (Below.refl _ w3).drew) (by omega) (fun q hq => by have := (goodKV_of (hgg q hq)).2.1; omega) g1 g2 g3)
      clear hG' hb3 hcl hcell hgg x0 x1 x2
      go_simp
      refine hK _ _ ?_
      clear hK K
      refine rd 13 (by kernel_rfl) rfl (fun K hK => ?_); go_simp; refine hK _ _ ?_; clear hK K
      try simp only [Act.put, lT, l0, lS]
      refine tA 14 ?_; try simp only [Act.put, lT, l0, lS]
      refine tA 15 ?_; try simp only [Act.put, lT, l0, lS]
      refine rd 16 (by kernel_rfl) rfl (fun K hK => ?_); go_simp; refine hK _ _ ?_; clear hK K
      refine rd 17 (by kernel_rfl) rfl (fun K hK => ?_); go_simp; refine hK _ _ ?_; clear hK K
      refine wpAny_done (by kernel_rfl) ?_ _
      go_wp2_with (fail)
      refine wp_region_any (by kernel_rfl) ?_
      change wpAny _ _ _ _ _ _ _ (World.drew _)
      try simp only [Act.put, lT, l0, lS]
      refine tA 0 ?_; try simp only [Act.put, lT, l0, lS]
      refine tA 1 ?_; try simp only [Act.put, lT, l0, lS]
      refine tA 2 ?_; try simp only [Act.put, lT, l0, lS]
      refine tA 3 ?_; try simp only [Act.put, lT, l0, lS]
      refine tA 4 ?_; try simp only [Act.put, lT, l0, lS]
      refine tA 6 ?_; try simp only [Act.put, lT, l0, lS]
      refine tA 7 ?_; try simp only [Act.put, lT, l0, lS]
      refine tA 8 ?_; try simp only [Act.put, lT, l0, lS]
      refine tA 9 ?_; try simp only [Act.put, lT, l0, lS]
      try simp only [Act.put, lT, l0, lS]
      refine rA 5 (v := ?_) (hy := ?hy) ?_; case hy => (intro w hE; have q0 := hE.cell y1; go_simp; try with_reducible rfl)
      try simp only [Act.put, lT, l0, lS]
      try simp only [Act.put, lT, l0, lS]
      refine rA 10 (v := ?_) (hy := ?hy) ?_; case hy => (intro w hE; have q0 := hE.cell y2; go_simp; try with_reducible rfl)
      try simp only [Act.put, lT, l0, lS]
      refine rd 11 (by kernel_rfl) rfl (fun K hK => ?_); go_simp
      (go_must (refine HF.out.mono ?_); rintro e w4 ⟨u, rfl, hu, hb4⟩)
      have hb4' : Below w3.heap.size w3 w4 := ((Below.refl _ w3).drew).trans hb4
      have HN := Lib.hid (HG'.out.newRow hb4' hu)
      have HBN := Lib.hid (HB3.out.trans (hb4'.mono HB3.out.size))
      obtain ⟨U, cu, rfl, _⟩ := Sl.of_own hu
      clear hu hb4 hb4'
      go_simp
      refine hK _ _ ?_
      clear hK K
      refine rd 12 (by kernel_rfl) rfl (fun K hK => ?_); go_simp; refine hK _ _ ?_; clear hK K
      try simp only [Act.put, lT, l0, lS]
      refine tA 13 ?_; try simp only [Act.put, lT, l0, lS]
      refine tA 14 ?_; try simp only [Act.put, lT, l0, lS]
      refine rd 15 (by kernel_rfl) rfl (fun K hK => ?_); go_simp; refine hK _ _ ?_; clear hK K
      refine wpAny_done (by kernel_rfl) ?_ _
      go_wp2_with (fail)
      go_roundg (gk - 1)
      case measure => omega
      case rel => exact ⟨r', i + 1, n + 1, rfl, by simp, by omega, by omega, by show Gq _ _ _ _ _ _ _ _ _; rw [HST.out]; exact HN.out, HBN.out⟩
     | false =>
      have hnot := goodKV_not hgd
      rw [hgd, if_neg (by simp)] at HST
      have HP := Lib.hid (treePut_bad p r key val wr.drew m1 m2 hnot)
      clear hgs m1 m2 hown hgg hgl
      go_wp2_with (fail)
      refine wp_region_any (by kernel_rfl) ?_
      change wpAny _ _ _ _ _ _ _ (World.drew _)
      try simp only [Act.put, lT, l0, lS]
      refine tA 0 ?_; try simp only [Act.put, lT, l0, lS]
      refine tA 1 ?_; try simp only [Act.put, lT, l0, lS]
      refine tA 2 ?_; try simp only [Act.put, lT, l0, lS]
      refine tA 3 ?_; try simp only [Act.put, lT, l0, lS]
      refine tA 4 ?_; try simp only [Act.put, lT, l0, lS]
      refine tA 5 ?_; try simp only [Act.put, lT, l0, lS]
      refine tA 7 ?_; try simp only [Act.put, lT, l0, lS]
      refine tA 8 ?_; try simp only [Act.put, lT, l0, lS]
      refine tA 9 ?_; try simp only [Act.put, lT, l0, lS]
      refine tA 10 ?_; try simp only [Act.put, lT, l0, lS]
      try simp only [Act.put, lT, l0, lS]
      refine rA 6 (v := ?_) (hy := ?hy) ?_; case hy => (intro w hE; have q0 := hE.cell x1; go_simp; try with_reducible rfl)
      try simp only [Act.put, lT, l0, lS]
      try simp only [Act.put, lT, l0, lS]
      refine rA 11 (v := ?_) (hy := ?hy) ?_; case hy => (intro w hE; have q0 := hE.cell x2; go_simp; try with_reducible rfl)
      try simp only [Act.put, lT, l0, lS]
      refine rd 12 (by kernel_rfl) rfl (fun K hK => ?_); go_simp
      (go_must (refine HP.out.mono ?_); rintro e w3 ⟨rfl, rfl⟩)
      go_simp
      refine hK _ _ ?_
      clear hK K
      refine rd 13 (by kernel_rfl) rfl (fun K hK => ?_); go_simp; refine hK _ _ ?_; clear hK K
      try simp only [Act.put, lT, l0, lS]
      refine tA 14 ?_; try simp only [Act.put, lT, l0, lS]
      refine tA 15 ?_; try simp only [Act.put, lT, l0, lS]
      refine rd 16 (by kernel_rfl) rfl (fun K hK => ?_); go_simp; refine hK _ _ ?_; clear hK K
      refine rd 17 (by kernel_rfl) rfl (fun K hK => ?_); go_simp; refine hK _ _ ?_; clear hK K
      refine wpAny_done (by kernel_rfl) ?_ _
      go_wp2_with (fail)
      go_roundg (gk - 1)
      case measure => omega
      case rel => exact ⟨r, i + 1, n, rfl, by simp, by omega, by omega, by show Gq _ _ _ _ _ _ _ _ _; rw [HST.out]; exact hg.out.below ((Below.refl _ wr).drew), hbw.out.drew⟩
    ·have hkd' : (kind == 1) = false := by simpa using hkd
     rw [if_neg (fun e => hkd e.1)] at HST
     clear hgs m1 m2 hown hgg hgl hkd
     go_wp2_with (fail)
     go_roundg (gk - 1)
     case measure => omega
     case rel => exact ⟨r, i + 1, n, rfl, by simp, by omega, by omega, by show Gq _ _ _ _ _ _ _ _ _; rw [HST.out]; exact hg.out, hbw.out⟩
   ·have h1' : ¬ (i : Int) < (ops.length : Int) := by omega
    have hii : i = ops.length := by omega
    have hg2 := hg.out
    rw [hii, List.take_length] at hg2
    have hn250 : n ≤ 250 := by omega
    obtain ⟨t, ht⟩ : ∃ t, putsOf ops [] = t := ⟨_, rfl⟩
    have htr : Rising t := by rw [← ht]; exact putsOf_rising trivial
    have htg : GoodP t := by rw [← ht]; exact putsOf_good fun q hq => by cases hq
    have htl : t.length ≤ 250 := by
     have := putsOf_len ops []
     rw [ht] at this
     simp only [List.length_nil] at this
     omega
    have hts : sumV t ≤ 60000 := by
     have h2 := putsOf_sum ops []
     have h4 := HS.out
     rw [ht] at h2
     simp only [sumV] at h2
     omega
    rw [ht] at hg2
    have hown := hg2.own
    obtain ⟨X, cx, rfl, _⟩ := Sl.of_own hown
    have HG2 := Lib.hid hg2
    have HR := Lib.hid (And.intro htr htg)
    obtain ⟨m, hm⟩ : ∃ m, t.length = m := ⟨_, rfl⟩
    have HM := Lib.hid hm
    rw [hm] at HG2 htl ⊢
    clear hg hg2 hown hii htr htg ht hm hni
    cases back with
    | true =>
     obtain ⟨c1, M, ids, g1, g2, g3, g4⟩ := HG2.out.ex
     have hpg := g2.pages hn250 hts (by have := HM.out; omega)
     have HD := Lib.hid (dropTree_ok r t ids n wr g1 g2 (by omega) (by omega) (by have := HM.out; omega))
     have HS3 := Lib.hid (And.intro g3 HG2.out.size)
     clear g1 g2 g3 g4 HG2
     go_wp2_with (fail)
     go_must (refine HD.out.mono ?_)
     rintro e w3 ⟨rfl, c2, M2, hp2, _, hK⟩
     rw [Nat.sub_self] at hp2
     have HM2 := Lib.hid (fun W (hb : Below w3.heap.size w3 W) => made_any W (hp2.below hb))
     have HB3 := Lib.hid (hbw.out.trans (hK.keeps.below HS3.out.2 fun i hi e => by have := HS3.out.1 i e; omega))
     clear hp2 hK
     go_wp2_with (fail)
     go_must (refine (HAl.out _).mono ?_)
     rintro e w4 ⟨rfl, hb4⟩
     have HB4 := Lib.hid hb4
     clear hb4
     go_wp2_with (fail)
     go_must (refine (HM2.out _ HB4.out).mono ?_)
     rintro e w5 ⟨Am, cm, rfl, hb5⟩
     have HF := Lib.hid (HB3.out.trans ((HB4.out.trans (hb5.mono HB4.out.size)).mono HB3.out.size))
     clear hb5
     go_wp2_with (fail)
     go_ret
     exact ⟨rfl, HF.out⟩
    | false =>
     have htm : (ops.length : Int).tmod 2 = ((ops.length % 2 : Nat) : Int) := by
      have := Int.tmod_eq_emod_of_nonneg (a := (ops.length : Int)) (b := 2) (by omega)
      omega
     rcases Nat.mod_two_eq_zero_or_one ops.length with hpar | hpar
     ·have f1 : (ops.length : Int).tmod 2 = 0 := by rw [htm, hpar]; rfl
      have f2 : (ops.length : Int) % 2 = 0 := by omega
      clear htm
      go_wp2_with (fail)
      obtain ⟨wo, hwo⟩ : ∃ x, x = wr := ⟨_, rfl⟩
      subst hwo
      go_loopg [8, 14] m (fun gk s8 s14 wr2 => ∃ (r : Int) (i : Nat), s8 = .int .i64 r ∧ s14 = .int .i64 (i : Int) ∧ i + gk = m ∧ Hid (Gq w.heap.size p t (.slice X m cx) m r (t.drop i) n wr2) ∧ Hid (Below w.heap.size w wr2))
      case atStart => exact ⟨r, 0, rfl, rfl, by omega, by
       show Gq _ _ _ _ _ _ _ _ _
       rw [List.drop_zero]
       exact HG2.out, hbw.out⟩
      case round =>
       clear HG2 hbw
       obtain ⟨wr2, hwo⟩ : ∃ x, x = wr := ⟨_, rfl⟩
       subst hwo
       obtain ⟨r2, i2, rfl, rfl, hi2, hg, hbw⟩ := hrel
       by_cases h2 : i2 < m
       ·have h2' : (i2 : Int) < (m : Int) := by omega
        have hi0 : (0 : Int) ≤ (i2 : Int) := by omega
        have hjm : i2 < m := by omega
        have hw1 : IntKind.i64.wrap ((i2 : Int) + 1) = (i2 : Int) + 1 := IntWalk.i64_in _ (by omega)
        have hj0 : (0 : Int) ≤ (i2 : Int) := by omega
        have hj1 : (i2 : Int) < (m : Int) := by omega
        have hjl : i2 < t.length := by have := HM.out; omega
        obtain ⟨_, _, e0, _, _, hcl⟩ := Sl.of_own hg.out.own
        cases e0
        obtain ⟨ba, oa, rfl, _, hca⟩ := hcl (by omega)
        obtain ⟨p1, p2⟩ := pairsCs_at t i2 hjl
        obtain ⟨u, hu⟩ : ∃ u, t[i2] = u := ⟨_, rfl⟩
        have hu2 : t[i2]? = some u := by rw [List.getElem?_eq_getElem hjl, hu]
        rw [hu] at p1 p2
        have x1 : wr2.cell? ⟨ba, oa + i2 * 2, none⟩ = _ := hca _ _ p1
        obtain ⟨q1, q2, _⟩ := goodKV_of (HR.out.2 u (List.mem_of_getElem? hu2))
        obtain ⟨d1, d2⟩ := del_front hu2
        have HP := Lib.hid (hg.out.del u.1 q1 q2 (by exact d1) hn250 (by rw [List.length_drop]; have := HM.out; omega) (Nat.le_trans (sumV_drop t _) hts))
        have HD2 : Hid (delP u.1 (t.drop i2) = t.drop (i2 + 1)) := by show _ = _; exact d2
        clear hca hcl p1 p2 hu hu2 hjl d1 d2 q1 q2
        obtain ⟨uk, uv⟩ := u
        simp only at x1 HP HD2
        go_wp2_with (fail)
        go_must (refine HP.out.mono ?_)
        rintro e w3 ⟨r3, rfl, hG3, hb3⟩
        rw [HD2.out] at hG3
        have HG3 := Lib.hid hG3
        have HB3 := Lib.hid (hbw.out.trans hb3)
        clear hG3 hb3
        go_wp2_with (fail)
        go_roundg (gk - 1)
        case measure => omega
        case rel => exact ⟨r3, i2 + 1, rfl, by simp, by omega, HG3.out, HB3.out⟩
       ·have h2' : ¬ (i2 : Int) < (m : Int) := by omega
        have hgg := hg.out
        have he : (t.drop i2) = [] := by exact List.drop_eq_nil_of_le (by have := HM.out; omega)
        rw [he] at hgg
        obtain ⟨c1, M, ids, g1, g2, g3, g4⟩ := hgg.ex
        have hids : ids.length = 1 := by
         obtain ⟨⟨k, S, t1, t2⟩, _, _⟩ := g2
         rw [t1.tree.empty.2]
         rfl
        rw [hids] at g1
        have HC := Lib.hid (countG_ok r2 [] ids n wr2 g1 g2 (by omega) (by omega) (by simp))
        have HH := Lib.hid (fun W (hb : Below wr2.heap.size wr2 W) => heightG_ok r2 [] ids n W (g1.below hb) g2 (by omega) (by omega) (by simp))
        have HMd := Lib.hid (fun W (hb : Below wr2.heap.size wr2 W) => made_any W (g1.below hb))
        simp only [List.length_nil, Int.natCast_zero] at HC
        clear hg hgg he g1 g2 g3 g4 hids
        go_wp2_with (fail)
        go_must (refine HC.out.mono ?_)
        rintro e w3 ⟨rfl, hb3⟩
        have HB3 := Lib.hid hb3
        clear hb3
        go_wp2_with (fail)
        go_must (refine (HH.out _ HB3.out).mono ?_)
        rintro e w4 ⟨k, k1, k2, k3, rfl, hb4⟩
        have hk00 : k = 0 := by simpa using k3
        subst hk00
        have HB4 := Lib.hid (HB3.out.trans (hb4.mono HB3.out.size))
        clear hb4 k1 k2 k3
        go_wp2_with (fail)
        go_must (refine (HAl.out _).mono ?_)
        rintro e w5 ⟨rfl, hb5⟩
        have HB5 := Lib.hid (HB4.out.trans (hb5.mono HB4.out.size))
        clear hb5
        go_wp2_with (fail)
        go_must (refine (HMd.out _ HB5.out).mono ?_)
        rintro e w6 ⟨Am, cm, rfl, hb6⟩
        have HF := Lib.hid (hbw.out.trans ((HB5.out.trans (hb6.mono HB5.out.size)).mono hbw.out.size))
        clear hb6
        go_wp2_with (fail)
        go_ret
        exact ⟨rfl, HF.out⟩
     ·have f1 : (ops.length : Int).tmod 2 = 1 := by rw [htm, hpar]; rfl
      have f2 : (ops.length : Int) % 2 = 1 := by omega
      clear htm
      go_wp2_with (fail)
      obtain ⟨wo, hwo⟩ : ∃ x, x = wr := ⟨_, rfl⟩
      subst hwo
      go_loopg [8, 14] m (fun gk s8 s14 wr2 => ∃ (r : Int) (i : Nat), s8 = .int .i64 r ∧ s14 = .int .i64 (i : Int) ∧ i + gk = m ∧ Hid (Gq w.heap.size p t (.slice X m cx) m r (t.take (m - i)) n wr2) ∧ Hid (Below w.heap.size w wr2))
      case atStart => exact ⟨r, 0, rfl, rfl, by omega, by
       show Gq _ _ _ _ _ _ _ _ _
       rw [Nat.sub_zero, ← HM.out, List.take_length, HM.out]
       exact HG2.out, hbw.out⟩
      case round =>
       clear HG2 hbw
       obtain ⟨wr2, hwo⟩ : ∃ x, x = wr := ⟨_, rfl⟩
       subst hwo
       obtain ⟨r2, i2, rfl, rfl, hi2, hg, hbw⟩ := hrel
       by_cases h2 : i2 < m
       ·have h2' : (i2 : Int) < (m : Int) := by omega
        have hi0 : (0 : Int) ≤ (i2 : Int) := by omega
        obtain ⟨j, hj⟩ : ∃ j, j = m - 1 - i2 := ⟨_, rfl⟩
        have hjm : j < m := by omega
        have hjI : (j : Int) = (m : Int) - 1 - (i2 : Int) := by omega
        have hs1 : IntKind.i64.wrap ((m : Int) - 1) = (m : Int) - 1 := IntWalk.i64_in _ (by omega)
        have hs2 : IntKind.i64.wrap ((m : Int) - 1 - (i2 : Int)) = (j : Int) := (IntWalk.i64_in _ (by omega)).trans hjI.symm
        have HS12 := Lib.hid (And.intro hs1 hs2)
        clear hs1 hs2 hjI
        have hmi : m - i2 = j + 1 := by omega
        have hmi2 : m - (i2 + 1) = j := by omega
        have hw1 : IntKind.i64.wrap ((i2 : Int) + 1) = (i2 : Int) + 1 := IntWalk.i64_in _ (by omega)
        have hj0 : (0 : Int) ≤ (j : Int) := by omega
        have hj1 : (j : Int) < (m : Int) := by omega
        have hjl : j < t.length := by have := HM.out; omega
        obtain ⟨_, _, e0, _, _, hcl⟩ := Sl.of_own hg.out.own
        cases e0
        obtain ⟨ba, oa, rfl, _, hca⟩ := hcl (by omega)
        obtain ⟨p1, p2⟩ := pairsCs_at t j hjl
        obtain ⟨u, hu⟩ : ∃ u, t[j] = u := ⟨_, rfl⟩
        have hu2 : t[j]? = some u := by rw [List.getElem?_eq_getElem hjl, hu]
        rw [hu] at p1 p2
        have x1 : wr2.cell? ⟨ba, oa + j * 2, none⟩ = _ := hca _ _ p1
        obtain ⟨q1, q2, _⟩ := goodKV_of (HR.out.2 u (List.mem_of_getElem? hu2))
        obtain ⟨d1, d2⟩ := del_back HR.out.1 hu2
        have HP := Lib.hid (hg.out.del u.1 q1 q2 (by rw [hmi]; exact d1) hn250 (by rw [List.length_take]; omega) (Nat.le_trans (sumV_take t _) hts))
        have HD2 : Hid (delP u.1 (t.take (m - i2)) = t.take (m - (i2 + 1))) := by show _ = _; rw [hmi, hmi2]; exact d2
        clear hca hcl p1 p2 hu hu2 hjl d1 d2 q1 q2
        obtain ⟨uk, uv⟩ := u
        simp only at x1 HP HD2
        obtain ⟨hs1, hs2⟩ := HS12.out
        clear hj hmi hmi2
        go_wp2_with (fail)
        go_must (refine HP.out.mono ?_)
        rintro e w3 ⟨r3, rfl, hG3, hb3⟩
        rw [HD2.out] at hG3
        have HG3 := Lib.hid hG3
        have HB3 := Lib.hid (hbw.out.trans hb3)
        clear hG3 hb3
        go_wp2_with (fail)
        go_roundg (gk - 1)
        case measure => omega
        case rel => exact ⟨r3, i2 + 1, rfl, by simp, by omega, HG3.out, HB3.out⟩
       ·have h2' : ¬ (i2 : Int) < (m : Int) := by omega
        have hgg := hg.out
        have he : (t.take (m - i2)) = [] := by rw [show m - i2 = 0 by omega]; rfl
        rw [he] at hgg
        obtain ⟨c1, M, ids, g1, g2, g3, g4⟩ := hgg.ex
        have hids : ids.length = 1 := by
         obtain ⟨⟨k, S, t1, t2⟩, _, _⟩ := g2
         rw [t1.tree.empty.2]
         rfl
        rw [hids] at g1
        have HC := Lib.hid (countG_ok r2 [] ids n wr2 g1 g2 (by omega) (by omega) (by simp))
        have HH := Lib.hid (fun W (hb : Below wr2.heap.size wr2 W) => heightG_ok r2 [] ids n W (g1.below hb) g2 (by omega) (by omega) (by simp))
        have HMd := Lib.hid (fun W (hb : Below wr2.heap.size wr2 W) => made_any W (g1.below hb))
        simp only [List.length_nil, Int.natCast_zero] at HC
        clear hg hgg he g1 g2 g3 g4 hids
        go_wp2_with (fail)
        go_must (refine HC.out.mono ?_)
        rintro e w3 ⟨rfl, hb3⟩
        have HB3 := Lib.hid hb3
        clear hb3
        go_wp2_with (fail)
        go_must (refine (HH.out _ HB3.out).mono ?_)
        rintro e w4 ⟨k, k1, k2, k3, rfl, hb4⟩
        have hk00 : k = 0 := by simpa using k3
        subst hk00
        have HB4 := Lib.hid (HB3.out.trans (hb4.mono HB3.out.size))
        clear hb4 k1 k2 k3
        go_wp2_with (fail)
        go_must (refine (HAl.out _).mono ?_)
        rintro e w5 ⟨rfl, hb5⟩
        have HB5 := Lib.hid (HB4.out.trans (hb5.mono HB4.out.size))
        clear hb5
        go_wp2_with (fail)
        go_must (refine (HMd.out _ HB5.out).mono ?_)
        rintro e w6 ⟨Am, cm, rfl, hb6⟩
        have HF := Lib.hid (hbw.out.trans ((HB5.out.trans (hb6.mono HB5.out.size)).mono hbw.out.size))
        clear hb6
        go_wp2_with (fail)
        go_ret
        exact ⟨rfl, HF.out⟩

theorem call_treeGone (hAl : ∀ W, Calls Tryz.prog 9 #[] W (TrueB W)) (A : Option Addr) (n c : Nat) (back : Bool) (ops : List OpL) (w : World) (h : OpsAt w (.slice A n c) ops) :
  Calls Tryz.prog 4 #[.slice A n c, .bool back] w fun e w' => e = .returned (.bool true) ∧ Below w.heap.size w w' := gone_walk hAl A n c back ops w h
end Go.Ev

set_option linter.unusedVariables false
set_option linter.unusedSimpArgs false
namespace Go.Proofs.YtijlmjfemedjdaaGreatDoor
open Go.ChangeShapes Go.WideShapes Go.ChangeAt Go.RowKit

theorem ownGone : ownKnob Tryz.prog.godebug = none := by kernel_rfl

set_option maxRecDepth 100000 in
theorem treeGone_lifted (os : Os) (started : os.Started) (H : Type) (enc : TypeId × Value → H) :
  ReturnsInHanded {} Tryz.checked os 4 .any (fun w args => (Rows.treeGoneSpec.pre enc Tryz.prog Tryz.f4 [] false w args ∧ laidMetH Tryz.prog Rows.treeGoneRow.laid w) ∧ sizedMet enc Tryz.prog Tryz.f4 (OpenSpec.ofChange Rows.treeGoneSpec) false w args)
   (Rows.treeGoneSpec.post enc Tryz.prog Tryz.f4 false true false false) := by
 refine returnsInHanded_of_change_and (C := Tryz.checked) (X := fun w _ => laidMetH Tryz.prog Rows.treeGoneRow.laid w) (fun _ _ _ hh h => h.of_heap hh) ownGone started (by kernel_rfl) Tryz.func4
  (ChangeSpec.witness_shaped (enc := enc) (C := Tryz.checked) (os := os) (X := fun w _ => laidMetH Tryz.prog Rows.treeGoneRow.laid w) false (World.laidAll Tryz.prog os Rows.treeGoneRow.laid) #[.slice none 0 0, .bool false] 8 (World.laidAll_os _ _ _)
   (World.shaped_of_ZipB (by kernel_rfl) (by kernel_rfl)) (by kernel_rfl) (by kernel_rfl) (by kernel_rfl)
   (by rw [MakeChecks.laidMetH_plain _ _ _ (by kernel_rfl)]; exact laidMet_laidAll _ (by kernel_rfl) (by kernel_rfl))) ?_
 intro W base args ds gs before hval0 hW _ _ hL _
 have hval : ∀ (j : Nat) t v, Tryz.f4.params[j]? = some t → args[j]? = some v → Value.okWide Tryz.prog W .any base t v := hval0
 have hW' := hW
 obtain ⟨p, q, hA0, hV, rfl, _, _⟩ := hW
 have hA : DataW.TrodAll enc Tryz.prog W 0 (fun _ => true) true Tryz.f4.params.toList args.toList ds p := hA0
 rw [Tryz.params4] at hA hval
 obtain ⟨v0, vs0, d0, ds0, p0, r0, hargs, rfl, rfl, h0, hr0⟩ := trodAll_cons hA
 obtain ⟨v1, vs1, d1, ds1, p1, r1, rfl, rfl, rfl, h1, hr1⟩ := trodAll_cons hr0
 obtain ⟨rfl, rfl, rfl⟩ := trodAll_nil hr1
 obtain rfl : args = #[v0, v1] := by cases args; simp_all
 clear hargs hr0 hr1
 obtain ⟨rfl, rfl⟩ := trodVars_none hV
 obtain ⟨bk, rfl, rfl, rfl⟩ := open_bool Tryz.underlying4 (hval 1 4 v1 rfl rfl) h1
 have h0k := h0
 obtain ⟨pa, l, c, rfl⟩ := okWide_slice Tryz.underlying22 (hval 0 22 v0 rfl rfl)
 obtain ⟨fuel, hf⟩ := h0
 obtain ⟨ops, hops⟩ := Ev.slice_ops Tryz.underlying22 Tryz.underlying32 (by kernel_rfl) (by kernel_rfl) rfl rfl rfl Tryz.underlying3 Tryz.underlying9 Tryz.underlying9 hf
 simp only [List.append_nil] at hW'
 have hlt : ∀ x ∈ p0, x.block < W.heap.size := fun x hx => by simpa using hW'.lt x hx
 refine (Ev.call_treeGone Ev.alive11 pa l c bk ops W hops).mono fun e W' ⟨hret, hw⟩ => ?_
 subst hret
 have hT0 := Below.trod (by kernel_rfl) (by kernel_rfl) (of_decide_eq_true (by kernel_rfl)) h0k hw hlt
 have hTs := trodAll_cons_mk hT0 (trodAll_mk1 (shut_bool Tryz.underlying4 bk))
 exact ⟨_, rfl, _, _, _, [], p0, [], hW', trodAll_mk1 (shut_bool Tryz.underlying4 true), (by
  simp only [List.append_nil] at hTs
  exact hTs), rfl, hw.frame _, fun h => by cases h⟩
end Go.Proofs.YtijlmjfemedjdaaGreatDoor

set_option linter.unusedVariables false
set_option linter.unusedSimpArgs false
namespace Go.Proofs.YtijlmjfemedjdaaGreatDoor
open Go.ChangeShapes Go.WideShapes Go.ChangeAt Go.RowKit

set_option maxHeartbeats 40000000 in
theorem treeGone_facts : joinedFacts Tryz.prog 4 Tryz.f4 Rows.treeGoneSpec Rows.treeGoneRow = true := by kernel_rfl

set_option maxHeartbeats 40000000 in
theorem treeGone_row : Rows.TreeGoneSaid :=
 OpenClaim.holds_of_wide 4 Tryz.f4 rfl rfl rfl rfl rfl rfl rfl ⟨rfl, rfl, rfl, rfl, rfl⟩ rfl rfl rfl rfl rfl (by as_aux_lemma => kernel_rfl) Tryz.func4 treeGone_facts
  (of_decide_eq_true (by as_aux_lemma => kernel_rfl)) (by unfold Func.isWrapper; first | (rw [if_pos (by decide +kernel)]; kernel_rfl) | (rw [if_neg (by decide +kernel)]; exact ⟨rfl, rfl⟩))
  (fun os started H enc _ => treeGone_lifted os started H enc)

set_option maxHeartbeats 40000000 in
theorem treeGone_holds : Rows.TreeGoneCardSaid :=
 Claim7.holds_tied_plain_at .later [] [.data, .pinned] true (true, "771d84a5f72de596803082e9cbc3e013ac064352cf004b86303fdb988e65aead") true treeGone_row (fun _ h => by cases h) (by as_aux_lemma => kernel_rfl) (fun _ h => by cases h) treeGone_row_tie rfl ⟨rfl, rfl⟩ (by as_aux_lemma => kernel_rfl) rfl
  (fun f fn hf hfn => by
   obtain rfl : f = 4 := Option.some.inj ((show Tryz.prog.funcNamed "arboretum/arboretumlaw11.TreeGone" = some 4 by as_aux_lemma => kernel_rfl).symm.trans hf) |>.symm
   obtain rfl : fn = Tryz.f4 := (Option.some.inj (Tryz.func4.symm.trans hfn)).symm
   exact ⟨by as_aux_lemma => kernel_rfl, fun j t ht => by
    rw [Tryz.params4] at ht
    have hm : t ∈ [22, 4] := by simpa using Array.mem_of_getElem? ht
    have hall : ([22, 4].all fun u => !Tryz.prog.wantsStandIn u) = true := by as_aux_lemma => kernel_rfl
    exact (show Tryz.prog.wantsStandIn t = false by simpa using List.all_eq_true.1 hall t hm)⟩)
  (by as_aux_lemma => kernel_rfl)
#print axioms treeGone_holds
end Go.Proofs.YtijlmjfemedjdaaGreatDoor
