/-
  A tree of some steps' pairs, and the document's pairs: law 12's 'grown'. A cursor and a pair beside it; law 12's alive, walked over the contracts of all that it calls. The document's Range.
-/
import Derived.Test.YtgfmhppkmogdhaaGreatDoorMPGvAny2
import Derived.Test.YtgfmhppkmogdhaaGreatDoorMPGwSame
import Derived.Test.YtgfmhppkmogdhaaGreatDoorMPGwPutT
import Derived.Test.YtgfmhppkmogdhaaGreatDoorMPGwPick
import Derived.Test.YtgfmhppkmogdhaaGreatDoorMPGwOps2
import Derived.Test.YtgfmhppkmogdhaaGreatDoorMPGwRange0
import Derived.Test.YtgfmhppkmogdhaaGreatDoorMPGwRange
set_option linter.unusedVariables false
set_option linter.unusedSimpArgs false
set_option linter.unusedVariables false
set_option linter.unusedSimpArgs false
namespace Go.Ev
open Go.Proofs Go.RowKit

theorem treePut_bad (p : Nat) (root : Int) (key v : Bytes) (w : World) (hk : key.length ≤ 9223372036854775807) (hv : v.length ≤ 9223372036854775807) (hbad : ¬ (1 ≤ key.length ∧ key.length ≤ 40 ∧ v.length ≤ 2000)) :
    Calls Tryz.prog 30 #[ptrV p, .int .i64 root, strV key, strV v] w fun e w' => e = .returned (.tuple #[.int .i64 0, .int .i64 1]) ∧ w = w' := by
  have hG := isKey_any key w hk
  obtain ⟨m, hm⟩ : ∃ m, v.length = m := ⟨_, rfl⟩
  rw [hm] at hbad hv
  by_cases hg : 1 ≤ key.length ∧ key.length ≤ 40
  · have e1 : decide (1 ≤ key.length) = true := by simpa using hg.1
    have e2 : decide (key.length ≤ 40) = true := by simpa using hg.2
    rw [e1, e2] at hG
    have h2 : (2000 : Int) < (m : Int) := by omega
    have HG := Lib.hid hG
    clear hG e1 e2
    go_enter Tryz.func30, Tryz.ntmps30
    go_wp2_with (fail)
    go_must (refine HG.out.mono ?_)
    rintro e w1 ⟨rfl, rfl⟩
    go_wp2_with (fail)
    refine bodyPost_ret (v := .tuple #[.int .i64 0, .int .i64 1]) (by simp [results, Tryz.results30, go_sem]) rfl ?_
    exact ⟨rfl, rfl⟩
  · have e1 : (decide (1 ≤ key.length) && decide (key.length ≤ 40)) = false := by
      rw [Bool.and_eq_false_iff]
      simp only [decide_eq_false_iff_not]
      omega
    rw [e1] at hG
    have HG := Lib.hid hG
    clear hG e1
    go_enter Tryz.func30, Tryz.ntmps30
    go_wp2_with (fail)
    go_must (refine HG.out.mono ?_)
    rintro e w1 ⟨rfl, rfl⟩
    go_wp2_with (fail)
    refine bodyPost_ret (v := .tuple #[.int .i64 0, .int .i64 1]) (by simp [results, Tryz.results30, go_sem]) rfl ?_
    exact ⟨rfl, rfl⟩

theorem treeOk_new (root : Int) : TreeOk (updS (fun _ => none) root (some ⟨2, 0, []⟩)) root [] 1 := by
  refine ⟨⟨0, [root], ⟨[], [], by simp [updS, layI], rfl, by simp [layI], ⟨rfl, rfl⟩, rfl, fun q hq => by cases hq⟩, by simp, rfl⟩, fun q hq => by cases hq⟩

def kvs (ops : List OpL) : List (Bytes × Bytes) := ops.map fun o => (o.key, o.val)

/-- A pager, a tree, and the document's pairs in a row. -/
structure Gr (B p : Nat) (t : List Pair) (root : Int) (x : Value) (W : World) : Prop where
  ex : ∃ c M cnt, PgOk W p c 3000 M cnt ∧ TreeOk M root t cnt ∧ (∀ k, c.S p k → B ≤ k) ∧ (∀ k, x.ownBlock = some k → ¬ c.S p k)
  own : W.ownsRow B 44 2 x t.length (pairsCs t)
  size : B ≤ W.heap.size

theorem Gr.below {B p : Nat} {t : List Pair} {root : Int} {x : Value} {W W' : World} (h : Gr B p t root x W) (hb : Below W.heap.size W W') : Gr B p t root x W' := by
  obtain ⟨c, M, cnt, h1, h2, h3, h4⟩ := h.ex
  exact ⟨⟨c, M, cnt, h1.below hb, h2, h3, h4⟩, own_below h.own hb, Nat.le_trans h.size hb.size⟩

/-- A pair put in, here and there. -/
theorem Gr.put {B p : Nat} {t : List Pair} {u : Value} {wr w1 w2 : World} {key v : Bytes} {e : Ending} {c : Pc} {M : Store} {cnt : Nat} (hB : B ≤ wr.heap.size) (hc : PgOk wr p c 3000 M cnt) (hS : ∀ k, c.S p k → B ≤ k)
    (hb : Below wr.heap.size wr w1) (hu : w1.ownsRow wr.heap.size 44 2 u (insP key v t).length (pairsCs (insP key v t))) (hp : PutTP p c 3000 t key v w1.drew e w2) :
    ∃ r, e = .returned (.tuple #[.int .i64 r, .int .i64 0]) ∧ Gr B p (insP key v t) r u w2 ∧ Below B wr w2 := by
  obtain ⟨r, M', c', cnt', rfl, hT, hP, hK⟩ := hp
  have hz := hK.keeps.size
  have hz1 := hb.size
  have hlt := hc.lt
  have hzz : w1.drew.heap.size = w1.heap.size := rfl
  have hun : ∀ k, u.ownBlock = some k → ¬ c.S p k := fun k hk e => by
    have h1 := (hu.lt k hk).1
    have h2 := hlt k e
    omega
  have hu' : w1.drew.ownsRow wr.heap.size 44 2 u (insP key v t).length (pairsCs (insP key v t)) := hu
  refine ⟨r, rfl, ⟨⟨c', M', cnt', hP, hT, fun k hk => ?_, fun k hk e => ?_⟩, own_base (own_keeps hu' hK.keeps hun) hB, by omega⟩, ((hb.mono hB).drew).trans (hK.keeps.below (by omega) fun i hi e => by have := hS i e; omega)⟩
  · rcases hK.sub k hk with e | e
    · exact hS k e
    · omega
  · rcases hK.sub k e with e | e
    · exact hun k hk e
    · have := (hu.lt k hk).2; omega

def GrownP (ops : List OpL) (w : World) (e : Ending) (w' : World) : Prop :=
  ∃ p root x, e = .returned (.tuple #[ptrV p, .int .i64 root, x, .bool true]) ∧ Gr w.heap.size p (growP (kvs ops) []) root x w' ∧ Below w.heap.size w w'

theorem kvs_take {ops : List OpL} {i : Nat} (h : i < ops.length) (t : List Pair) : growP (kvs (ops.take (i + 1))) t = if goodKV ops[i].key ops[i].val then insP ops[i].key ops[i].val (growP (kvs (ops.take i)) t) else growP (kvs (ops.take i)) t := by
  have e : ops.take (i + 1) = ops.take i ++ [ops[i]] := (List.take_append_getElem h).symm
  rw [e]
  unfold kvs
  rw [List.map_append, growP_app]
  rfl

set_option maxHeartbeats 4000000 in
set_option maxRecDepth 100000 in
theorem grown_any (A : Option Addr) (n c : Nat) (ops : List OpL) (w : World) (h : OpsAt w (.slice A n c) ops) (hn : ops.length ≤ 250) :
    Calls Tryz.prog 10 #[.slice A n c] w (GrownP ops w) := by
  obtain ⟨hv, hml, hlen⟩ := h
  have hnn : n = ops.length := by obtain ⟨_, _, e, _⟩ := hv; cases e; rfl
  subst hnn
  have HLen := Lib.hid hlen
  have HV := Lib.hid hv
  clear hlen hml hv
  go_enter Tryz.func10, Tryz.ntmps10
  go_wp2_with (fail)
  go_must (refine (begin_any w).mono ?_)
  rintro e w1 ⟨d, f, p, pc, root, rfl, hp, hs, hb1⟩
  have hG1 : Gr w.heap.size p [] root (.slice none 0 0) w1 := ⟨⟨pc, _, 1, hp, treeOk_new root, hs, fun k hk => by cases hk⟩, World.ownsRow_nil _ _ _ _, hb1.size⟩
  have HG1 := Lib.hid hG1
  have HB1 := Lib.hid hb1
  clear hp hs hb1 hG1
  go_wp2_with (fail)
  go_loopg [9, 11, 12] ops.length (fun gk s9 s11 s12 wr => ∃ (r : Int) (i : Nat), s9 = .int .i64 r ∧ s12 = .int .i64 (i : Int) ∧ i + gk = ops.length ∧ Hid (Gr w.heap.size p (growP (kvs (ops.take i)) []) r s11 wr) ∧ Hid (Below w.heap.size w wr))
  case atStart => exact ⟨root, 0, rfl, rfl, by omega, HG1.out, HB1.out⟩
  case round =>
    obtain ⟨r, i, rfl, rfl, hi, hg, hbw⟩ := hrel
    by_cases h1 : i < ops.length
    · have h1' : (i : Int) < (ops.length : Int) := by omega
      have hi0 : (0 : Int) ≤ (i : Int) := by omega
      have hw1 : IntKind.i64.wrap ((i : Int) + 1) = (i : Int) + 1 := IntWalk.i64_in _ (by omega)
      obtain ⟨A', c', e0, _, _, hcl⟩ := HV.out.below hbw.out
      cases e0
      obtain ⟨blk, off, rfl, hbl, hcell⟩ := hcl (by omega)
      obtain ⟨_, p1, p2⟩ := opsCs_at ops i h1
      have x1 : wr.cell? ⟨blk, off + i * 3 + 1, none⟩ = _ := hcell _ _ p1
      have x2 : wr.cell? ⟨blk, off + i * 3 + 2, none⟩ = _ := hcell _ _ p2
      obtain ⟨m1, m2⟩ := HLen.out _ (List.getElem_mem h1)
      unfold maxLen at m1 m2
      have hst := kvs_take h1 []
      have hgl : (growP (kvs (ops.take i)) []).length ≤ i := by
        have := growP_len (kvs (ops.take i)) []
        simp only [kvs, List.length_map, List.length_take, List.length_nil] at this
        unfold kvs
        omega
      have hgg : GoodP (growP (kvs (ops.take i)) []) := growP_good fun q hq => by cases hq
      have HST := Lib.hid hst
      clear hst hcell hcl p1 p2
      generalize hk0 : ops[i].key = key at *
      generalize hv0 : ops[i].val = val at *
      generalize ht0 : growP (kvs (ops.take i)) [] = t at *
      obtain ⟨pc, M, cnt, hpg, hT, hS, hx⟩ := hg.out.ex
      have hown := hg.out.own
      have hsz := hg.out.size
      obtain ⟨X, cx, rfl, _⟩ := Sl.of_own hown
      clear hk0 hv0 ht0
      cases hgd : goodKV key val with
      | true =>
        obtain ⟨g1, g2, g3⟩ := goodKV_of hgd
        rw [hgd] at HST
        have hF := refPut_any _ _ t key val wr.drew hown (by omega) (fun q hq => by have := (goodKV_of (hgg q hq)).2.1; omega) g1 g2 g3
        have hP : ∀ W, Below wr.heap.size wr W → Calls Tryz.prog 30 #[ptrV p, .int .i64 r, strV key, strV val] W.drew (PutTP p pc 3000 t key val W.drew) := fun W hW =>
          treePut_ok r key val t 250 (hpg.below (hW.trans ((Below.refl _ W).drew.mono hW.size))) hT g1 g2 g3 (by omega) (by omega) (by omega)
        have hX : ∀ W, Below wr.heap.size wr W → W.cell? ⟨blk, off + i * 3 + 1, none⟩ = some (strV key) ∧ W.cell? ⟨blk, off + i * 3 + 2, none⟩ = some (strV val) := fun W hW => ⟨(hW.cell (p := ⟨blk, off + i * 3 + 1, none⟩) hbl).trans x1, (hW.cell (p := ⟨blk, off + i * 3 + 2, none⟩) hbl).trans x2⟩
        have HF := Lib.hid hF
        have HP := Lib.hid hP
        have HX := Lib.hid hX
        have HA := Lib.hid (And.intro hpg hS)
        clear hF hP hX hpg hT hS hx hown hgg hg hgl m1 m2 g1 g2 g3
        go_wp2_with (fail)
        refine wp_region_any (by kernel_rfl) ?_
        change wpAny _ _ _ _ _ _ _ (World.drew _)
        try simp only [Act.put, lT, l0, lS]
        refine tA 0 ?_; try simp only [Act.put, lT, l0, lS]
        refine tA 1 ?_; try simp only [Act.put, lT, l0, lS]
        refine tA 2 ?_; try simp only [Act.put, lT, l0, lS]
        refine tA 3 ?_; try simp only [Act.put, lT, l0, lS]
        refine tA 4 ?_; try simp only [Act.put, lT, l0, lS]
        refine tA 6 ?_; try simp only [Act.put, lT, l0, lS]
        refine tA 7 ?_; try simp only [Act.put, lT, l0, lS]
        refine tA 8 ?_; try simp only [Act.put, lT, l0, lS]
        refine tA 9 ?_; try simp only [Act.put, lT, l0, lS]
        try simp only [Act.put, lT, l0, lS]
        refine rA 5 (v := ?_) (hy := ?hy) ?_; case hy => (intro w hE; have q0 := hE.cell x1; go_simp; try with_reducible rfl)
        try simp only [Act.put, lT, l0, lS]
        try simp only [Act.put, lT, l0, lS]
        refine rA 10 (v := ?_) (hy := ?hy) ?_; case hy => (intro w hE; have q0 := hE.cell x2; go_simp; try with_reducible rfl)
        try simp only [Act.put, lT, l0, lS]
        refine rd 11 (by kernel_rfl) rfl (fun K hK => ?_); go_simp
        (go_must (refine HF.out.mono ?_); rintro e w2 ⟨u, rfl, hu, hb2⟩)
        go_simp
        refine hK _ _ ?_
        clear hK K
        refine rd 12 (by kernel_rfl) rfl (fun K hK => ?_); go_simp; refine hK _ _ ?_; clear hK K
        try simp only [Act.put, lT, l0, lS]
        refine tA 13 ?_; try simp only [Act.put, lT, l0, lS]
        refine tA 14 ?_; try simp only [Act.put, lT, l0, lS]
        refine rd 15 (by kernel_rfl) rfl (fun K hK => ?_); go_simp; refine hK _ _ ?_; clear hK K
        refine rd 16 (by kernel_rfl) rfl (fun K hK => ?_); go_simp; refine hK _ _ ?_; clear hK K
        refine wpAny_done (by kernel_rfl) ?_ _
        have hb2' : Below wr.heap.size wr w2 := ((Below.refl _ wr).drew).trans hb2
        obtain ⟨y1, y2⟩ := HX.out w2 hb2'
        have HP2 := Lib.hid (HP.out w2 hb2')
        have HU := Lib.hid hu
        have HB2 := Lib.hid hb2'
        clear hu hb2 hb2'
        go_wp2_with (fail)
        refine wp_region_any (by kernel_rfl) ?_
        change wpAny _ _ _ _ _ _ _ (World.drew _)
        try simp only [Act.put, lT, l0, lS]
        refine tA 0 ?_; try simp only [Act.put, lT, l0, lS]
        refine tA 1 ?_; try simp only [Act.put, lT, l0, lS]
        refine tA 2 ?_; try simp only [Act.put, lT, l0, lS]
        refine tA 3 ?_; try simp only [Act.put, lT, l0, lS]
        refine tA 4 ?_; try simp only [Act.put, lT, l0, lS]
        refine tA 5 ?_; try simp only [Act.put, lT, l0, lS]
        refine tA 7 ?_; try simp only [Act.put, lT, l0, lS]
        refine tA 8 ?_; try simp only [Act.put, lT, l0, lS]
        refine tA 9 ?_; try simp only [Act.put, lT, l0, lS]
        refine tA 10 ?_; try simp only [Act.put, lT, l0, lS]
        try simp only [Act.put, lT, l0, lS]
        refine rA 6 (v := ?_) (hy := ?hy) ?_; case hy => (intro w hE; have q0 := hE.cell y1; go_simp; try with_reducible rfl)
        try simp only [Act.put, lT, l0, lS]
        try simp only [Act.put, lT, l0, lS]
        refine rA 11 (v := ?_) (hy := ?hy) ?_; case hy => (intro w hE; have q0 := hE.cell y2; go_simp; try with_reducible rfl)
        try simp only [Act.put, lT, l0, lS]
        refine rd 12 (by kernel_rfl) rfl (fun K hK => ?_); go_simp
        (go_must (refine HP2.out.mono ?_); intro e w3 hput)
        obtain ⟨r', rfl, hG', hb3⟩ := Gr.put hsz HA.out.1 HA.out.2 HB2.out HU.out hput
        have HG' := Lib.hid hG'
        have HB3 := Lib.hid hb3
        clear hG' hb3 hput
        go_simp
        refine hK _ _ ?_
        clear hK K
        refine rd 13 (by kernel_rfl) rfl (fun K hK => ?_); go_simp; refine hK _ _ ?_; clear hK K
        try simp only [Act.put, lT, l0, lS]
        refine tA 14 ?_; try simp only [Act.put, lT, l0, lS]
        refine tA 15 ?_; try simp only [Act.put, lT, l0, lS]
        refine rd 16 (by kernel_rfl) rfl (fun K hK => ?_); go_simp; refine hK _ _ ?_; clear hK K
        refine rd 17 (by kernel_rfl) rfl (fun K hK => ?_); go_simp; refine hK _ _ ?_; clear hK K
        refine wpAny_done (by kernel_rfl) ?_ _
        go_wp2_with (fail)
        go_roundg (gk - 1)
        case measure => omega
        case rel => exact ⟨r', i + 1, rfl, by simp, by omega, by show Gr _ _ _ _ _ _; rw [HST.out]; exact HG'.out, hbw.out.trans HB3.out⟩
      | false =>
        have hnot := goodKV_not hgd
        rw [hgd] at HST
        have hF := refPut_bad X t.length cx key val wr.drew m1 m2 hnot
        have hP : ∀ W, Calls Tryz.prog 30 #[ptrV p, .int .i64 r, strV key, strV val] W _ := fun W => treePut_bad p r key val W m1 m2 hnot
        have hX : ∀ W, Below wr.heap.size wr W → W.cell? ⟨blk, off + i * 3 + 1, none⟩ = some (strV key) ∧ W.cell? ⟨blk, off + i * 3 + 2, none⟩ = some (strV val) := fun W hW => ⟨(hW.cell (p := ⟨blk, off + i * 3 + 1, none⟩) hbl).trans x1, (hW.cell (p := ⟨blk, off + i * 3 + 2, none⟩) hbl).trans x2⟩
        obtain ⟨y1, y2⟩ := hX wr.drew ((Below.refl _ wr).drew)
        have HF := Lib.hid hF
        have HP := Lib.hid hP
        clear hF hP hX hpg hT hS hx hown hgg hgl m1 m2
        go_wp2_with (fail)
        refine wp_region_any (by kernel_rfl) ?_
        change wpAny _ _ _ _ _ _ _ (World.drew _)
        try simp only [Act.put, lT, l0, lS]
        refine tA 0 ?_; try simp only [Act.put, lT, l0, lS]
        refine tA 1 ?_; try simp only [Act.put, lT, l0, lS]
        refine tA 2 ?_; try simp only [Act.put, lT, l0, lS]
        refine tA 3 ?_; try simp only [Act.put, lT, l0, lS]
        refine tA 4 ?_; try simp only [Act.put, lT, l0, lS]
        refine tA 6 ?_; try simp only [Act.put, lT, l0, lS]
        refine tA 7 ?_; try simp only [Act.put, lT, l0, lS]
        refine tA 8 ?_; try simp only [Act.put, lT, l0, lS]
        refine tA 9 ?_; try simp only [Act.put, lT, l0, lS]
        try simp only [Act.put, lT, l0, lS]
        refine rA 5 (v := ?_) (hy := ?hy) ?_; case hy => (intro w hE; have q0 := hE.cell x1; go_simp; try with_reducible rfl)
        try simp only [Act.put, lT, l0, lS]
        try simp only [Act.put, lT, l0, lS]
        refine rA 10 (v := ?_) (hy := ?hy) ?_; case hy => (intro w hE; have q0 := hE.cell x2; go_simp; try with_reducible rfl)
        try simp only [Act.put, lT, l0, lS]
        refine rd 11 (by kernel_rfl) rfl (fun K hK => ?_); go_simp
        (go_must (refine HF.out.mono ?_); rintro e w2 ⟨rfl, rfl⟩)
        go_simp
        refine hK _ _ ?_
        clear hK K
        refine rd 12 (by kernel_rfl) rfl (fun K hK => ?_); go_simp; refine hK _ _ ?_; clear hK K
        try simp only [Act.put, lT, l0, lS]
        refine tA 13 ?_; try simp only [Act.put, lT, l0, lS]
        refine tA 14 ?_; try simp only [Act.put, lT, l0, lS]
        refine rd 15 (by kernel_rfl) rfl (fun K hK => ?_); go_simp; refine hK _ _ ?_; clear hK K
        refine rd 16 (by kernel_rfl) rfl (fun K hK => ?_); go_simp; refine hK _ _ ?_; clear hK K
        refine wpAny_done (by kernel_rfl) ?_ _
        go_wp2_with (fail)
        refine wp_region_any (by kernel_rfl) ?_
        change wpAny _ _ _ _ _ _ _ (World.drew _)
        try simp only [Act.put, lT, l0, lS]
        refine tA 0 ?_; try simp only [Act.put, lT, l0, lS]
        refine tA 1 ?_; try simp only [Act.put, lT, l0, lS]
        refine tA 2 ?_; try simp only [Act.put, lT, l0, lS]
        refine tA 3 ?_; try simp only [Act.put, lT, l0, lS]
        refine tA 4 ?_; try simp only [Act.put, lT, l0, lS]
        refine tA 5 ?_; try simp only [Act.put, lT, l0, lS]
        refine tA 7 ?_; try simp only [Act.put, lT, l0, lS]
        refine tA 8 ?_; try simp only [Act.put, lT, l0, lS]
        refine tA 9 ?_; try simp only [Act.put, lT, l0, lS]
        refine tA 10 ?_; try simp only [Act.put, lT, l0, lS]
        try simp only [Act.put, lT, l0, lS]
        refine rA 6 (v := ?_) (hy := ?hy) ?_; case hy => (intro w hE; have q0 := hE.cell y1; go_simp; try with_reducible rfl)
        try simp only [Act.put, lT, l0, lS]
        try simp only [Act.put, lT, l0, lS]
        refine rA 11 (v := ?_) (hy := ?hy) ?_; case hy => (intro w hE; have q0 := hE.cell y2; go_simp; try with_reducible rfl)
        try simp only [Act.put, lT, l0, lS]
        refine rd 12 (by kernel_rfl) rfl (fun K hK => ?_); go_simp
        (go_must (refine (HP.out _).mono ?_); rintro e w3 ⟨rfl, rfl⟩)
        go_simp
        refine hK _ _ ?_
        clear hK K
        refine rd 13 (by kernel_rfl) rfl (fun K hK => ?_); go_simp; refine hK _ _ ?_; clear hK K
        try simp only [Act.put, lT, l0, lS]
        refine tA 14 ?_; try simp only [Act.put, lT, l0, lS]
        refine tA 15 ?_; try simp only [Act.put, lT, l0, lS]
        refine rd 16 (by kernel_rfl) rfl (fun K hK => ?_); go_simp; refine hK _ _ ?_; clear hK K
        refine rd 17 (by kernel_rfl) rfl (fun K hK => ?_); go_simp; refine hK _ _ ?_; clear hK K
        refine wpAny_done (by kernel_rfl) ?_ _
        go_wp2_with (fail)
        go_roundg (gk - 1)
        case measure => omega
        case rel => exact ⟨r, i + 1, rfl, by simp, by omega, by show Gr _ _ _ _ _ _; rw [HST.out]; exact hg.out.below ((Below.refl _ wr).drew.drew), hbw.out.drew.drew⟩
    · have h1' : ¬ (i : Int) < (ops.length : Int) := by omega
      have hii : i = ops.length := by omega
      have hg2 := hg.out
      rw [hii, List.take_length] at hg2
      have HG2 := Lib.hid hg2
      clear hg2
      have hown := HG2.out.own
      obtain ⟨X, cx, rfl, _⟩ := Sl.of_own hown
      clear hg hown hii
      go_wp2_with (fail)
      refine bodyPost_ret (v := .tuple #[ptrV p, .int .i64 r, .slice X _ cx, .bool true]) (by simp [results, Tryz.results10, go_sem]; rfl) rfl ?_
      exact ⟨p, r, _, rfl, HG2.out, hbw.out⟩
end Go.Ev

set_option linter.unusedVariables false
set_option linter.unusedSimpArgs false
namespace Go.Ev
open Go.Proofs Go.RowKit

theorem Below.of_frm {B : Nat} {F : Nat → Prop} {w w' : World} (h : Keeps (Frm B F) w w') (hB : B ≤ w.heap.size) : Below B w w' := h.below hB fun i hi e => by have := e.1; omega

/-- A cursor, and a pair in a block of its own. -/
structure Tn (w : World) (B g : Nat) (q : Pair) (p b : Nat) (c : Pc) (cnt : Nat) (M : Store) (root : Int) (all : List Pair) (o : Option Nat) (W : World) : Prop where
  st : CSt B (fun k => k = g) p b c 3000 cnt M root all o W
  bl : Below w.heap.size w W
  blk : Blk W g 44 #[strV q.1, strV q.2]
  le : w.heap.size ≤ B

section
variable {w W W' : World} {B g p b cnt : Nat} {q : Pair} {c : Pc} {M : Store} {root : Int} {all : List Pair} {o o' : Option Nat}
theorem Tn.below (h : Tn w B g q p b c cnt M root all o W) (hb : Below W.heap.size W W') : Tn w B g q p b c cnt M root all o W' := ⟨h.st.below hb, h.bl.trans (hb.mono h.bl.size), h.blk.below' hb, h.le⟩
theorem Tn.go {e : Ending} (h : Tn w B g q p b c cnt M root all o W) (hs : CStP B (fun k => k = g) p b c 3000 cnt M root all o' W e W') : e = .returned (.bool o'.isSome) ∧ Tn w B g q p b c cnt M root all o' W' := by
  obtain ⟨rfl, h1, h2⟩ := hs
  exact ⟨rfl, h1, h.bl.trans ((Below.of_frm h2 h.st.size).mono h.le), h.blk.keeps h2 fun e => e.2 rfl, h.le⟩
theorem Tn.c0 (h : Tn w B g q p b c cnt M root all o W) : W.cell? ⟨g, 0, none⟩ = some (strV q.1) := h.blk.cell 0
theorem Tn.c1 (h : Tn w B g q p b c cnt M root all o W) : W.cell? ⟨g, 1, none⟩ = some (strV q.2) := h.blk.cell 1
theorem Tn.make {w5 W6 : World} (h : CSt B (fun _ => False) p b c 3000 cnt M root all o W) (hb : Below w.heap.size w W) (hle : w.heap.size ≤ B) (h5 : Below W.heap.size W w5)
    (e6 : w5.alloc (.cells #[strV q.1, strV q.2] 44) = W6) : Tn w B w5.heap.size q p b c cnt M root all o W6 := by
  have hz5 := h5.size
  have h6 : Below W.heap.size W W6 := by
    rw [← e6]
    exact h5.alloc hz5 _
  have b6 : Blk W6 w5.heap.size 44 #[strV q.1, strV q.2] := by
    rw [← e6]
    exact Blk.new _ _ _
  exact ⟨h.also h6 (fun k hk => .inr (by subst hk; exact ⟨hz5, b6.lt⟩)), hb.trans (h6.mono hb.size), b6, hle⟩
end

def aliveOps : List OpL := [⟨0, [97], [49]⟩, ⟨0, [99], [50]⟩]

theorem alive_ops (w : World) (T : TypeId) : OpsAt (w.alloc (.cells #[.int .i64 0, strV [97], strV [49], .int .i64 0, strV [99], strV [50]] T)) (.slice (some ⟨w.heap.size, 0, none⟩) 2 2) aliveOps := by
  have hb : Blk (w.alloc (.cells #[.int .i64 0, strV [97], strV [49], .int .i64 0, strV [99], strV [50]] T)) w.heap.size T #[.int .i64 0, strV [97], strV [49], .int .i64 0, strV [99], strV [50]] := Blk.new _ _ _
  refine ⟨⟨_, _, rfl, Nat.le_refl _, rfl, fun _ => ⟨w.heap.size, 0, rfl, hb.lt, fun j u hu => ?_⟩⟩, by unfold maxLen aliveOps; simp, fun o ho => ?_⟩
  · rw [Nat.zero_add, hb.cell]
    match j with
    | 0 => exact hu
    | 1 => exact hu
    | 2 => exact hu
    | 3 => exact hu
    | 4 => exact hu
    | 5 => exact hu
    | j + 6 => simp [aliveOps, opsCs, opCs] at hu
  · unfold maxLen
    simp only [aliveOps, List.mem_cons, List.not_mem_nil, or_false] at ho
    rcases ho with rfl | rfl <;> simp

set_option maxHeartbeats 4000000 in
set_option maxRecDepth 100000 in
theorem alive12 (w : World) : Calls Tryz.prog 9 #[] w (TrueB w) := by
  have HG := Lib.hid (grown_any _ _ _ aliveOps _ (alive_ops w 76) (by decide))
  unfold GrownP at HG
  obtain ⟨all, hall⟩ : ∃ all, growP (kvs aliveOps) [] = all := ⟨_, rfl⟩
  rw [hall] at HG
  have hall2 : all = [([97], [49]), ([99], [50])] := by rw [← hall]; rfl
  have HB0 := Lib.hid ((Below.refl w.heap.size w).alloc (Nat.le_refl _) (.cells #[.int .i64 0, strV [97], strV [49], .int .i64 0, strV [99], strV [50]] 76))
  have hlen : all.length ≤ 511 := by rw [hall2]; decide
  have hseek : (if aheadP [98] all < all.length then some (aheadP [98] all) else none) = some 1 := by rw [hall2]; rfl
  have hq : all[1]? = some ([99], [50]) := by rw [hall2]; rfl
  have hl2 : all.length = 2 := by rw [hall2]; rfl
  clear hall hall2
  have Hq := Lib.hid hq
  have Hl2 := Lib.hid hl2
  have Hsk := Lib.hid hseek
  clear hq hl2 hseek
  go_enter Tryz.func9, Tryz.ntmps9
  go_wp2_with (fail)
  go_must (refine HG.out.mono ?_)
  rintro e w2 ⟨p, root, x, rfl, hGr, hb2⟩
  obtain ⟨pc, M, cnt, hpg, hT, _, _⟩ := hGr.ex
  obtain ⟨X, cx, rfl, _⟩ := Sl.of_own hGr.own
  have HB2 := Lib.hid (HB0.out.trans (hb2.mono HB0.out.size))
  have HN := Lib.hid (new_st (root := root) (all := all) hpg)
  clear hGr hb2 hpg
  go_wp2_with (fail)
  go_must (refine HN.out.mono ?_)
  rintro e w3 ⟨b, rfl, hst, hb3⟩
  have HB3 := Lib.hid (HB2.out.trans (hb3.mono HB2.out.size))
  have hz3 := hst.size
  have hS := seek_st [98] hT hlen hst
  rw [Hsk.out] at hS
  have HS := Lib.hid hS
  clear hst hb3 hS
  go_wp2_with (fail)
  go_must (refine HS.out.mono ?_)
  rintro e w4 ⟨rfl, hst4, hk4⟩
  have hB4 := Below.of_frm hk4 hz3
  have HB4 := Lib.hid (HB3.out.trans (hB4.mono (by have := HB2.out.size; omega)))
  have hP := pair_st hT hst4
  simp only [pairAt, Hq.out, Option.getD_some] at hP
  have HP := Lib.hid hP
  have HST4 := Lib.hid hst4
  clear hst4 hk4 hB4 hP
  simp only [Option.isSome_some]
  go_wp2_with (fail)
  go_must (refine HP.out.mono ?_)
  rintro e w5 ⟨rfl, hb5⟩
  obtain ⟨W6, hW6⟩ : ∃ W6, w5.alloc (.cells #[strV [99], strV [50]] 44) = W6 := ⟨_, rfl⟩
  have hTn : Tn w w2.heap.size w5.heap.size ([99], [50]) p b pc cnt M root all (some 1) W6 := Tn.make HST4.out HB4.out (by have := HB2.out.size; omega) hb5 hW6
  have hNx := next_st hT hlen hTn.st
  rw [if_neg (by rw [Hl2.out]; omega)] at hNx
  have HNx := Lib.hid hNx
  have HW6 := Lib.hid hW6
  have HTn := Lib.hid hTn
  have c0 := hTn.c0
  have c1 := hTn.c1
  clear hTn hb5 hNx hW6
  go_wp2_with (fail)
  rw [HW6.out]
  clear HW6
  go_must (refine HNx.out.mono ?_)
  intro e w7 h7
  obtain ⟨rfl, hTn⟩ := HTn.out.go h7
  have HTn7 := Lib.hid hTn
  have HPv := Lib.hid (prevNo_st hTn.st)
  have hF := first_st hT hlen hTn.st
  rw [if_neg (by rintro rfl; have := Hl2.out; simp at this)] at hF
  have HF := Lib.hid hF
  clear hTn h7 hF c0 c1
  simp only [Option.isSome_none]
  go_wp2_with (fail)
  go_must (refine HPv.out.mono ?_)
  rintro e w8 ⟨rfl, rfl⟩
  go_wp2_with (fail)
  go_must (refine HF.out.mono ?_)
  intro e w9 h9
  obtain ⟨rfl, hTn⟩ := HTn7.out.go h9
  have HTn9 := Lib.hid hTn
  have HEr := Lib.hid (err_st hTn.st)
  clear hTn h9
  simp only [Option.isSome_some]
  go_wp2_with (fail)
  go_must (refine HEr.out.mono ?_)
  rintro e w10 ⟨rfl, rfl⟩
  go_wp2_with (fail)
  go_ret
  exact ⟨rfl, HTn9.out.bl⟩

end Go.Ev

set_option linter.unusedVariables false
set_option linter.unusedSimpArgs false
namespace Go.Ev
open Go.Proofs Go.RowKit

theorem refR_skip {lo hi : Bytes} {most : Int} {n : Nat} {q : Pair} {l : List Pair} (h : (lessB q.1 lo || stopR hi most n q) = true) : refR lo hi most n (q :: l) = refR lo hi most n l := by
  simp only [refR, h, if_true]
theorem refR_take {lo hi : Bytes} {most : Int} {n : Nat} {q : Pair} {l : List Pair} (h : (lessB q.1 lo || stopR hi most n q) = false) : refR lo hi most n (q :: l) = q :: refR lo hi most (n + 1) l := by
  simp only [refR, h, Bool.false_eq_true, if_false]

/-- Between two rounds. -/
structure RrI (w : World) (lo hi : Bytes) (most : Int) (t : List Pair) (i n : Nat) (v : Value) (wr : World) : Prop where
  ex : ∃ acc : List Pair, acc.length = n ∧ wr.ownsRow w.heap.size 44 2 v n (pairsCs acc) ∧ acc ++ refR lo hi most n (t.drop i) = refR lo hi most 0 t
  bl : Below w.heap.size w wr
  le : n ≤ i

theorem RrI.skip {w wr wr' : World} {lo hi : Bytes} {most : Int} {t : List Pair} {i n : Nat} {v : Value} (h : RrI w lo hi most t i n v wr) {q : Pair} (hq : t.drop i = q :: t.drop (i + 1)) (hs : (lessB q.1 lo || stopR hi most n q) = true) (hb : Below wr.heap.size wr wr') : RrI w lo hi most t (i + 1) n v wr' := by
  obtain ⟨acc, h1, h2, h3⟩ := h.ex
  rw [hq, refR_skip hs] at h3
  exact ⟨⟨acc, h1, own_below h2 hb, h3⟩, h.bl.trans (hb.mono h.bl.size), by have := h.le; omega⟩

set_option maxHeartbeats 8000000 in
set_option maxRecDepth 100000 in
theorem refRange_any (A : Option Addr) (n c : Nat) (t : List Pair) (lo hi : Bytes) (most : Int) (w : World) (hv : Sl w 2 (.slice A n c) n (pairsCs t)) (hn : n ≤ 10000) (hlo : lo.length ≤ 100000) (hhi : hi.length ≤ 100000) (hks : ∀ q ∈ t, q.1.length ≤ 100000) :
    Calls Tryz.prog 23 #[.slice A n c, strV lo, strV hi, .int .i64 most] w fun e w' => ∃ v, e = .returned v ∧ w'.ownsRow w.heap.size 44 2 v (refR lo hi most 0 t).length (pairsCs (refR lo hi most 0 t)) ∧ Below w.heap.size w w' := by
  have hl : t.length = n := by
    obtain ⟨_, _, _, _, h1, _⟩ := hv
    rw [pairsCs_len] at h1
    omega
  subst hl
  obtain ⟨i0, hinf, q0, q1, q2⟩ := info_parts infoPair
  have HV := Lib.hid (And.intro hv hks)
  clear hv hks
  go_enter Tryz.func23, Tryz.ntmps23
  go_wp2_with (fail)
  go_loopg [9, 10] t.length (fun gk s9 s10 wr => ∃ (i n : Nat), s10 = .int .i64 (i : Int) ∧ i + gk = t.length ∧ Hid (RrI w lo hi most t i n s9 wr))
  case atStart => exact ⟨0, 0, rfl, by omega, ⟨⟨[], rfl, World.ownsRow_nil _ _ _ _, rfl⟩, Below.refl _ _, Nat.le_refl _⟩⟩
  case round =>
    obtain ⟨i, n, rfl, hi', hI⟩ := hrel
    obtain ⟨acc, ha1, hown, hlaw⟩ := hI.out.ex
    obtain ⟨X, cx, rfl, _⟩ := Sl.of_own hown
    have HAcc := Lib.hid (And.intro ha1 (And.intro hown hlaw))
    clear ha1 hown hlaw
    by_cases h1 : i < t.length
    · have h1' : (i : Int) < (t.length : Int) := by omega
      have hi0 : (0 : Int) ≤ (i : Int) := by omega
      have hni : n ≤ i := hI.out.le
      have hw1 : IntKind.i64.wrap ((i : Int) + 1) = (i : Int) + 1 := IntWalk.i64_in _ (by omega)
      obtain ⟨_, _, e0, _, _, hcl⟩ := (HV.out.1.below (hI.out.bl))
      cases e0
      obtain ⟨ba, oa, rfl, hba, hca⟩ := hcl (by omega)
      obtain ⟨p1, p2⟩ := pairsCs_at t i h1
      obtain ⟨q, hq⟩ : ∃ q, t[i] = q := ⟨_, rfl⟩
      have hql := HV.out.2 _ (List.getElem_mem h1)
      have hdr := List.drop_eq_getElem_cons h1
      rw [hq] at p1 p2 hql hdr
      have x1 : wr.cell? ⟨ba, oa + i * 2, none⟩ = _ := hca _ _ p1
      have x2 : wr.cell? ⟨ba, oa + i * 2 + 1, none⟩ = _ := hca _ _ p2
      have HBW := Lib.hid hI.out.bl
      have HC : Hid (∀ W, Below wr.heap.size wr W → W.cell? ⟨ba, oa + i * 2, none⟩ = some (strV q.1) ∧ W.cell? ⟨ba, oa + i * 2 + 1, none⟩ = some (strV q.2)) := fun W hW => ⟨(hW.cell (p := ⟨ba, oa + i * 2, none⟩) hba).trans x1, (hW.cell (p := ⟨ba, oa + i * 2 + 1, none⟩) hba).trans x2⟩
      have HL1 : Hid (∀ W, Calls Tryz.prog 26 #[strV q.1, strV lo] W fun e w' => e = .returned (.bool (lessB q.1 lo)) ∧ Below W.heap.size W w') := fun W => less_any q.1 lo W hql hlo
      have HL2 : Hid (∀ W, Calls Tryz.prog 26 #[strV q.1, strV hi] W fun e w' => e = .returned (.bool (lessB q.1 hi)) ∧ Below W.heap.size W w') := fun W => less_any q.1 hi W hql hhi
      have HSk : Hid (∀ W, (lessB q.1 lo || stopR hi most n q) = true → Below wr.heap.size wr W → RrI w lo hi most t (i + 1) n (.slice X n cx) W) := fun W hs hb => hI.out.skip hdr hs hb
      have HTk : Hid (∀ (w3 w5 : World) (v5 : Value), (lessB q.1 lo || stopR hi most n q) = false → Below wr.heap.size wr w3 → w5.ownsRow w.heap.size 44 2 v5 (n + 1) (pairsCs acc ++ pairsCs [q]) → (w3.alloc (.cells #[strV q.1, strV q.2] 44)).grownBy w5 (Value.slice X n cx).ownBlock → RrI w lo hi most t (i + 1) (n + 1) v5 w5) := fun w3 w5 v5 hs hb ho hg => by
        obtain ⟨ha1, hown, hlaw⟩ := HAcc.out
        rw [hdr, refR_take hs] at hlaw
        have hz := hb.size
        have hz0 := hI.out.bl.size
        refine ⟨⟨acc ++ [q], by simp [ha1], by rw [pairsCs_app]; exact ho, by rw [← hlaw]; simp⟩, ((hI.out.bl.trans (hb.mono hz0)).alloc (by omega) _).grown hg (by simp; omega) (fun k hk => (hown.lt k hk).1), by omega⟩
      obtain ⟨qk, qv⟩ := q
      simp only at x1 x2 HC HL1 HL2 HSk HTk
      clear hcl hca p1 p2 hq hql hdr hI x2
      by_cases hm0 : 0 < most
      · by_cases hm1 : most ≤ (n : Int)
        · have hS : ∀ b, stopR hi most n b = true := fun b => by simp [stopR, hm0, hm1]
          have HS := Lib.hid hS
          clear hS
          cases hb1 : lessB qk lo with
          | true =>
            rw [hb1] at HL1
            go_wp2_with (fail)
            go_must (refine (HL1.out _).mono ?_)
            rintro e w1 ⟨rfl, hbw1⟩
            go_wp2_with (fail)
            go_roundg (gk - 1)
            case measure => omega
            case rel => exact ⟨i + 1, n, by simp, by omega, HSk.out _ (by rw [hb1]; rfl) hbw1⟩
          | false =>
            rw [hb1] at HL1
            by_cases hh : hi = []
            · have hh1 : (hi == ([] : Bytes)) = true := by simpa using hh
              have HHh := Lib.hid hh
              clear hh
              go_wp2_with (fail)
              go_must (refine (HL1.out _).mono ?_)
              rintro e w1 ⟨rfl, hbw1⟩
              go_wp2_with (fail)
              go_roundg (gk - 1)
              case measure => omega
              case rel => exact ⟨i + 1, n, by simp, by omega, HSk.out _ (by rw [HS.out]; simp) hbw1⟩
            · have hh1 : (hi == ([] : Bytes)) = false := by simpa using hh
              have HHh := Lib.hid hh
              clear hh
              cases hb2 : lessB qk hi with
              | false =>
                rw [hb2] at HL2
                go_wp2_with (fail)
                go_must (refine (HL1.out _).mono ?_)
                rintro e w1 ⟨rfl, hbw1⟩
                obtain ⟨y1, _⟩ := HC.out _ hbw1
                go_wp2_with (fail)
                go_must (refine (HL2.out _).mono ?_)
                rintro e w2 ⟨rfl, hbw2⟩
                have hbw3 := hbw1.trans (hbw2.mono hbw1.size)
                go_wp2_with (fail)
                go_roundg (gk - 1)
                case measure => omega
                case rel => exact ⟨i + 1, n, by simp, by omega, HSk.out _ (by rw [HS.out]; simp) hbw3⟩
              | true =>
                rw [hb2] at HL2
                go_wp2_with (fail)
                go_must (refine (HL1.out _).mono ?_)
                rintro e w1 ⟨rfl, hbw1⟩
                obtain ⟨y1, _⟩ := HC.out _ hbw1
                go_wp2_with (fail)
                go_must (refine (HL2.out _).mono ?_)
                rintro e w2 ⟨rfl, hbw2⟩
                have hbw3 := hbw1.trans (hbw2.mono hbw1.size)
                go_wp2_with (fail)
                go_roundg (gk - 1)
                case measure => omega
                case rel => exact ⟨i + 1, n, by simp, by omega, HSk.out _ (by rw [HS.out]; simp) hbw3⟩
        · have hS : ∀ b, stopR hi most n b = (decide (hi ≠ []) && !lessB b.1 hi) := fun b => by simp [stopR, hm1]
          have HS := Lib.hid hS
          clear hS
          cases hb1 : lessB qk lo with
          | true =>
            rw [hb1] at HL1
            go_wp2_with (fail)
            go_must (refine (HL1.out _).mono ?_)
            rintro e w1 ⟨rfl, hbw1⟩
            go_wp2_with (fail)
            go_roundg (gk - 1)
            case measure => omega
            case rel => exact ⟨i + 1, n, by simp, by omega, HSk.out _ (by rw [hb1]; rfl) hbw1⟩
          | false =>
            rw [hb1] at HL1
            by_cases hh : hi = []
            · have hh1 : (hi == ([] : Bytes)) = true := by simpa using hh
              have HHh := Lib.hid hh
              clear hh
              go_wp2_with (fail)
              go_must (refine (HL1.out _).mono ?_)
              rintro e w1 ⟨rfl, hbw1⟩
              have hS2 : (lessB qk lo || stopR hi most n (qk, qv)) = false := by rw [HS.out]; simp [hb1, HHh.out]
              obtain ⟨z1, z2⟩ := HC.out _ hbw1
              go_wp2_with (at_builtin; go_must (refine wpList_append_at rfl _ _ 26 rfl w.heap.size 44 i0 _ 2 32 Tryz.underlying26 hinf q0 q1 q2 rfl (by decide) _ n (pairsCs acc) rfl ((own_below HAcc.out.2.1 hbw1).alloc _) ⟨w1.heap.size, 0, none⟩ 1 1 (pairsCs [(qk, qv)]) rfl rfl (row_pair _ (qk, qv) _ _ rfl) (pairsCs_one _) (by unfold maxLen; omega) (by omega) (by have := hbw1.size; have := HBW.out.size; simp; omega) ?_))
              intro v5 w5 own5 hg5 _
              have HN := Lib.hid (HTk.out _ _ _ hS2 hbw1 own5 hg5)
              obtain ⟨A5, c5, rfl, _⟩ := Sl.of_own own5
              clear own5 hg5
              go_wp2_with (fail)
              go_roundg (gk - 1)
              case measure => omega
              case rel => exact ⟨i + 1, n + 1, by simp, by omega, HN.out⟩
            · have hh1 : (hi == ([] : Bytes)) = false := by simpa using hh
              have HHh := Lib.hid hh
              clear hh
              cases hb2 : lessB qk hi with
              | false =>
                rw [hb2] at HL2
                go_wp2_with (fail)
                go_must (refine (HL1.out _).mono ?_)
                rintro e w1 ⟨rfl, hbw1⟩
                obtain ⟨y1, _⟩ := HC.out _ hbw1
                go_wp2_with (fail)
                go_must (refine (HL2.out _).mono ?_)
                rintro e w2 ⟨rfl, hbw2⟩
                have hbw3 := hbw1.trans (hbw2.mono hbw1.size)
                go_wp2_with (fail)
                go_roundg (gk - 1)
                case measure => omega
                case rel => exact ⟨i + 1, n, by simp, by omega, HSk.out _ (by rw [HS.out]; simp [HHh.out, hb2]) hbw3⟩
              | true =>
                rw [hb2] at HL2
                go_wp2_with (fail)
                go_must (refine (HL1.out _).mono ?_)
                rintro e w1 ⟨rfl, hbw1⟩
                obtain ⟨y1, _⟩ := HC.out _ hbw1
                go_wp2_with (fail)
                go_must (refine (HL2.out _).mono ?_)
                rintro e w2 ⟨rfl, hbw2⟩
                have hbw3 := hbw1.trans (hbw2.mono hbw1.size)
                have hS2 : (lessB qk lo || stopR hi most n (qk, qv)) = false := by rw [HS.out]; simp [hb1, hb2]
                obtain ⟨z1, z2⟩ := HC.out _ hbw3
                go_wp2_with (at_builtin; go_must (refine wpList_append_at rfl _ _ 26 rfl w.heap.size 44 i0 _ 2 32 Tryz.underlying26 hinf q0 q1 q2 rfl (by decide) _ n (pairsCs acc) rfl ((own_below HAcc.out.2.1 hbw3).alloc _) ⟨w2.heap.size, 0, none⟩ 1 1 (pairsCs [(qk, qv)]) rfl rfl (row_pair _ (qk, qv) _ _ rfl) (pairsCs_one _) (by unfold maxLen; omega) (by omega) (by have := hbw3.size; have := HBW.out.size; simp; omega) ?_))
                intro v5 w5 own5 hg5 _
                have HN := Lib.hid (HTk.out _ _ _ hS2 hbw3 own5 hg5)
                obtain ⟨A5, c5, rfl, _⟩ := Sl.of_own own5
                clear own5 hg5
                go_wp2_with (fail)
                go_roundg (gk - 1)
                case measure => omega
                case rel => exact ⟨i + 1, n + 1, by simp, by omega, HN.out⟩
      · have hS : ∀ b, stopR hi most n b = (decide (hi ≠ []) && !lessB b.1 hi) := fun b => by simp [stopR, hm0]
        have HS := Lib.hid hS
        clear hS
        cases hb1 : lessB qk lo with
        | true =>
          rw [hb1] at HL1
          go_wp2_with (fail)
          go_must (refine (HL1.out _).mono ?_)
          rintro e w1 ⟨rfl, hbw1⟩
          go_wp2_with (fail)
          go_roundg (gk - 1)
          case measure => omega
          case rel => exact ⟨i + 1, n, by simp, by omega, HSk.out _ (by rw [hb1]; rfl) hbw1⟩
        | false =>
          rw [hb1] at HL1
          by_cases hh : hi = []
          · have hh1 : (hi == ([] : Bytes)) = true := by simpa using hh
            have HHh := Lib.hid hh
            clear hh
            go_wp2_with (fail)
            go_must (refine (HL1.out _).mono ?_)
            rintro e w1 ⟨rfl, hbw1⟩
            have hS2 : (lessB qk lo || stopR hi most n (qk, qv)) = false := by rw [HS.out]; simp [hb1, HHh.out]
            obtain ⟨z1, z2⟩ := HC.out _ hbw1
            go_wp2_with (at_builtin; go_must (refine wpList_append_at rfl _ _ 26 rfl w.heap.size 44 i0 _ 2 32 Tryz.underlying26 hinf q0 q1 q2 rfl (by decide) _ n (pairsCs acc) rfl ((own_below HAcc.out.2.1 hbw1).alloc _) ⟨w1.heap.size, 0, none⟩ 1 1 (pairsCs [(qk, qv)]) rfl rfl (row_pair _ (qk, qv) _ _ rfl) (pairsCs_one _) (by unfold maxLen; omega) (by omega) (by have := hbw1.size; have := HBW.out.size; simp; omega) ?_))
            intro v5 w5 own5 hg5 _
            have HN := Lib.hid (HTk.out _ _ _ hS2 hbw1 own5 hg5)
            obtain ⟨A5, c5, rfl, _⟩ := Sl.of_own own5
            clear own5 hg5
            go_wp2_with (fail)
            go_roundg (gk - 1)
            case measure => omega
            case rel => exact ⟨i + 1, n + 1, by simp, by omega, HN.out⟩
          · have hh1 : (hi == ([] : Bytes)) = false := by simpa using hh
            have HHh := Lib.hid hh
            clear hh
            cases hb2 : lessB qk hi with
            | false =>
              rw [hb2] at HL2
              go_wp2_with (fail)
              go_must (refine (HL1.out _).mono ?_)
              rintro e w1 ⟨rfl, hbw1⟩
              obtain ⟨y1, _⟩ := HC.out _ hbw1
              go_wp2_with (fail)
              go_must (refine (HL2.out _).mono ?_)
              rintro e w2 ⟨rfl, hbw2⟩
              have hbw3 := hbw1.trans (hbw2.mono hbw1.size)
              go_wp2_with (fail)
              go_roundg (gk - 1)
              case measure => omega
              case rel => exact ⟨i + 1, n, by simp, by omega, HSk.out _ (by rw [HS.out]; simp [HHh.out, hb2]) hbw3⟩
            | true =>
              rw [hb2] at HL2
              go_wp2_with (fail)
              go_must (refine (HL1.out _).mono ?_)
              rintro e w1 ⟨rfl, hbw1⟩
              obtain ⟨y1, _⟩ := HC.out _ hbw1
              go_wp2_with (fail)
              go_must (refine (HL2.out _).mono ?_)
              rintro e w2 ⟨rfl, hbw2⟩
              have hbw3 := hbw1.trans (hbw2.mono hbw1.size)
              have hS2 : (lessB qk lo || stopR hi most n (qk, qv)) = false := by rw [HS.out]; simp [hb1, hb2]
              obtain ⟨z1, z2⟩ := HC.out _ hbw3
              go_wp2_with (at_builtin; go_must (refine wpList_append_at rfl _ _ 26 rfl w.heap.size 44 i0 _ 2 32 Tryz.underlying26 hinf q0 q1 q2 rfl (by decide) _ n (pairsCs acc) rfl ((own_below HAcc.out.2.1 hbw3).alloc _) ⟨w2.heap.size, 0, none⟩ 1 1 (pairsCs [(qk, qv)]) rfl rfl (row_pair _ (qk, qv) _ _ rfl) (pairsCs_one _) (by unfold maxLen; omega) (by omega) (by have := hbw3.size; have := HBW.out.size; simp; omega) ?_))
              intro v5 w5 own5 hg5 _
              have HN := Lib.hid (HTk.out _ _ _ hS2 hbw3 own5 hg5)
              obtain ⟨A5, c5, rfl, _⟩ := Sl.of_own own5
              clear own5 hg5
              go_wp2_with (fail)
              go_roundg (gk - 1)
              case measure => omega
              case rel => exact ⟨i + 1, n + 1, by simp, by omega, HN.out⟩
    · have h1' : ¬ (i : Int) < (t.length : Int) := by omega
      have HE : Hid (∃ v, Ending.returned (.slice X n cx) = .returned v ∧ wr.ownsRow w.heap.size 44 2 v (refR lo hi most 0 t).length (pairsCs (refR lo hi most 0 t)) ∧ Below w.heap.size w wr) := by
        obtain ⟨ha1, hown, hlaw⟩ := HAcc.out
        rw [List.drop_eq_nil_of_le (by omega)] at hlaw
        simp only [refR, List.append_nil] at hlaw
        subst hlaw
        rw [ha1]
        exact ⟨_, rfl, hown, hI.out.bl⟩
      clear hI
      go_wp2_with (fail)
      go_ret
      exact HE.out
end Go.Ev
