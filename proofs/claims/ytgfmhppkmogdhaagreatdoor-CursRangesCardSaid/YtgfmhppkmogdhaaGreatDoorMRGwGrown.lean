/-
  A tree of some steps' pairs, and the document's pairs: law 12's 'grown'.
-/
import Derived.Test.YtgfmhppkmogdhaaGreatDoorMREvInsert
import Derived.Test.YtgfmhppkmogdhaaGreatDoorMRGwSame
import Derived.Test.YtgfmhppkmogdhaaGreatDoorMRGwPutT
import Derived.Test.YtgfmhppkmogdhaaGreatDoorMRGwPick
set_option linter.unusedVariables false
set_option linter.unusedSimpArgs false
set_option linter.unusedVariables false
set_option linter.unusedSimpArgs false
namespace Go.Ev
open Go.Proofs Go.RowKit

theorem treePut_bad (p : Nat) (root : Int) (key v : Bytes) (w : World) (hk : key.length ≤ 9223372036854775807) (hv : v.length ≤ 9223372036854775807) (hbad : ¬ (1 ≤ key.length ∧ key.length ≤ 40 ∧ v.length ≤ 2000)) :
    Calls Tryz.prog 30 #[ptrV p, .int .i64 root, strV key, strV v] w fun e w' => e = .returned (.tuple #[.int .i64 0, .int .i64 1]) ∧ w = w' := by
  have hG := isKey_any key w hk
  obtain ⟨m, hm⟩ : ∃ m, v.length = m := ⟨_, rfl⟩
  rw [hm] at hbad hv
  by_cases hg : 1 ≤ key.length ∧ key.length ≤ 40
  · have e1 : decide (1 ≤ key.length) = true := by simpa using hg.1
    have e2 : decide (key.length ≤ 40) = true := by simpa using hg.2
    rw [e1, e2] at hG
    have h2 : (2000 : Int) < (m : Int) := by omega
    have HG := Lib.hid hG
    clear hG e1 e2
    go_enter Tryz.func30, Tryz.ntmps30
    go_wp2_with (fail)
    go_must (refine HG.out.mono ?_)
    rintro e w1 ⟨rfl, rfl⟩
    go_wp2_with (fail)
    refine bodyPost_ret (v := .tuple #[.int .i64 0, .int .i64 1]) (by simp [results, Tryz.results30, go_sem]) rfl ?_
    exact ⟨rfl, rfl⟩
  · have e1 : (decide (1 ≤ key.length) && decide (key.length ≤ 40)) = false := by
      rw [Bool.and_eq_false_iff]
      simp only [decide_eq_false_iff_not]
      omega
    rw [e1] at hG
    have HG := Lib.hid hG
    clear hG e1
    go_enter Tryz.func30, Tryz.ntmps30
    go_wp2_with (fail)
    go_must (refine HG.out.mono ?_)
    rintro e w1 ⟨rfl, rfl⟩
    go_wp2_with (fail)
    refine bodyPost_ret (v := .tuple #[.int .i64 0, .int .i64 1]) (by simp [results, Tryz.results30, go_sem]) rfl ?_
    exact ⟨rfl, rfl⟩

theorem treeOk_new (root : Int) : TreeOk (updS (fun _ => none) root (some ⟨2, 0, []⟩)) root [] 1 := by
  refine ⟨⟨0, [root], ⟨[], [], by simp [updS, layI], rfl, by simp [layI], ⟨rfl, rfl⟩, rfl, fun q hq => by cases hq⟩, by simp, rfl⟩, fun q hq => by cases hq⟩

def kvs (ops : List OpL) : List (Bytes × Bytes) := ops.map fun o => (o.key, o.val)

/-- A pager, a tree, and the document's pairs in a row. -/
structure Gr (B p : Nat) (t : List Pair) (root : Int) (x : Value) (W : World) : Prop where
  ex : ∃ c M cnt, PgOk W p c 3000 M cnt ∧ TreeOk M root t cnt ∧ (∀ k, c.S p k → B ≤ k) ∧ (∀ k, x.ownBlock = some k → ¬ c.S p k)
  own : W.ownsRow B 44 2 x t.length (pairsCs t)
  size : B ≤ W.heap.size

theorem Gr.below {B p : Nat} {t : List Pair} {root : Int} {x : Value} {W W' : World} (h : Gr B p t root x W) (hb : Below W.heap.size W W') : Gr B p t root x W' := by
  obtain ⟨c, M, cnt, h1, h2, h3, h4⟩ := h.ex
  exact ⟨⟨c, M, cnt, h1.below hb, h2, h3, h4⟩, own_below h.own hb, Nat.le_trans h.size hb.size⟩

/-- A pair put in, here and there. -/
theorem Gr.put {B p : Nat} {t : List Pair} {u : Value} {wr w1 w2 : World} {key v : Bytes} {e : Ending} {c : Pc} {M : Store} {cnt : Nat} (hB : B ≤ wr.heap.size) (hc : PgOk wr p c 3000 M cnt) (hS : ∀ k, c.S p k → B ≤ k)
    (hb : Below wr.heap.size wr w1) (hu : w1.ownsRow wr.heap.size 44 2 u (insP key v t).length (pairsCs (insP key v t))) (hp : PutTP p c 3000 t key v w1.drew e w2) :
    ∃ r, e = .returned (.tuple #[.int .i64 r, .int .i64 0]) ∧ Gr B p (insP key v t) r u w2 ∧ Below B wr w2 := by
  obtain ⟨r, M', c', cnt', rfl, hT, hP, hK⟩ := hp
  have hz := hK.keeps.size
  have hz1 := hb.size
  have hlt := hc.lt
  have hzz : w1.drew.heap.size = w1.heap.size := rfl
  have hun : ∀ k, u.ownBlock = some k → ¬ c.S p k := fun k hk e => by
    have h1 := (hu.lt k hk).1
    have h2 := hlt k e
    omega
  have hu' : w1.drew.ownsRow wr.heap.size 44 2 u (insP key v t).length (pairsCs (insP key v t)) := hu
  refine ⟨r, rfl, ⟨⟨c', M', cnt', hP, hT, fun k hk => ?_, fun k hk e => ?_⟩, own_base (own_keeps hu' hK.keeps hun) hB, by omega⟩, ((hb.mono hB).drew).trans (hK.keeps.below (by omega) fun i hi e => by have := hS i e; omega)⟩
  · rcases hK.sub k hk with e | e
    · exact hS k e
    · omega
  · rcases hK.sub k e with e | e
    · exact hun k hk e
    · have := (hu.lt k hk).2; omega

def GrownP (ops : List OpL) (w : World) (e : Ending) (w' : World) : Prop :=
  ∃ p root x, e = .returned (.tuple #[ptrV p, .int .i64 root, x, .bool true]) ∧ Gr w.heap.size p (growP (kvs ops) []) root x w' ∧ Below w.heap.size w w'

theorem kvs_take {ops : List OpL} {i : Nat} (h : i < ops.length) (t : List Pair) : growP (kvs (ops.take (i + 1))) t = if goodKV ops[i].key ops[i].val then insP ops[i].key ops[i].val (growP (kvs (ops.take i)) t) else growP (kvs (ops.take i)) t := by
  have e : ops.take (i + 1) = ops.take i ++ [ops[i]] := (List.take_append_getElem h).symm
  rw [e]
  unfold kvs
  rw [List.map_append, growP_app]
  rfl

set_option maxHeartbeats 4000000 in
set_option maxRecDepth 100000 in
theorem grown_any (A : Option Addr) (n c : Nat) (ops : List OpL) (w : World) (h : OpsAt w (.slice A n c) ops) (hn : ops.length ≤ 250) :
    Calls Tryz.prog 10 #[.slice A n c] w (GrownP ops w) := by
  obtain ⟨hv, hml, hlen⟩ := h
  have hnn : n = ops.length := by obtain ⟨_, _, e, _⟩ := hv; cases e; rfl
  subst hnn
  have HLen := Lib.hid hlen
  have HV := Lib.hid hv
  clear hlen hml hv
  go_enter Tryz.func10, Tryz.ntmps10
  go_wp2_with (fail)
  go_must (refine (begin_any w).mono ?_)
  rintro e w1 ⟨d, f, p, pc, root, rfl, hp, hs, hb1⟩
  have hG1 : Gr w.heap.size p [] root (.slice none 0 0) w1 := ⟨⟨pc, _, 1, hp, treeOk_new root, hs, fun k hk => by cases hk⟩, World.ownsRow_nil _ _ _ _, hb1.size⟩
  have HG1 := Lib.hid hG1
  have HB1 := Lib.hid hb1
  clear hp hs hb1 hG1
  go_wp2_with (fail)
  go_loopg [9, 11, 12] ops.length (fun gk s9 s11 s12 wr => ∃ (r : Int) (i : Nat), s9 = .int .i64 r ∧ s12 = .int .i64 (i : Int) ∧ i + gk = ops.length ∧ Hid (Gr w.heap.size p (growP (kvs (ops.take i)) []) r s11 wr) ∧ Hid (Below w.heap.size w wr))
  case atStart => exact ⟨root, 0, rfl, rfl, by omega, HG1.out, HB1.out⟩
  case round =>
    obtain ⟨r, i, rfl, rfl, hi, hg, hbw⟩ := hrel
    by_cases h1 : i < ops.length
    · have h1' : (i : Int) < (ops.length : Int) := by omega
      have hi0 : (0 : Int) ≤ (i : Int) := by omega
      have hw1 : IntKind.i64.wrap ((i : Int) + 1) = (i : Int) + 1 := IntWalk.i64_in _ (by omega)
      obtain ⟨A', c', e0, _, _, hcl⟩ := HV.out.below hbw.out
      cases e0
      obtain ⟨blk, off, rfl, hbl, hcell⟩ := hcl (by omega)
      obtain ⟨_, p1, p2⟩ := opsCs_at ops i h1
      have x1 : wr.cell? ⟨blk, off + i * 3 + 1, none⟩ = _ := hcell _ _ p1
      have x2 : wr.cell? ⟨blk, off + i * 3 + 2, none⟩ = _ := hcell _ _ p2
      obtain ⟨m1, m2⟩ := HLen.out _ (List.getElem_mem h1)
      unfold maxLen at m1 m2
      have hst := kvs_take h1 []
      have hgl : (growP (kvs (ops.take i)) []).length ≤ i := by
        have := growP_len (kvs (ops.take i)) []
        simp only [kvs, List.length_map, List.length_take, List.length_nil] at this
        unfold kvs
        omega
      have hgg : GoodP (growP (kvs (ops.take i)) []) := growP_good fun q hq => by cases hq
      have HST := Lib.hid hst
      clear hst hcell hcl p1 p2
      generalize hk0 : ops[i].key = key at *
      generalize hv0 : ops[i].val = val at *
      generalize ht0 : growP (kvs (ops.take i)) [] = t at *
      obtain ⟨pc, M, cnt, hpg, hT, hS, hx⟩ := hg.out.ex
      have hown := hg.out.own
      have hsz := hg.out.size
      obtain ⟨X, cx, rfl, _⟩ := Sl.of_own hown
      clear hk0 hv0 ht0
      cases hgd : goodKV key val with
      | true =>
        obtain ⟨g1, g2, g3⟩ := goodKV_of hgd
        rw [hgd] at HST
        have hF := refPut_any _ _ t key val wr.drew hown (by omega) (fun q hq => by have := (goodKV_of (hgg q hq)).2.1; omega) g1 g2 g3
        have hP : ∀ W, Below wr.heap.size wr W → Calls Tryz.prog 30 #[ptrV p, .int .i64 r, strV key, strV val] W.drew (PutTP p pc 3000 t key val W.drew) := fun W hW =>
          treePut_ok r key val t 250 (hpg.below (hW.trans ((Below.refl _ W).drew.mono hW.size))) hT g1 g2 g3 (by omega) (by omega) (by omega)
        have hX : ∀ W, Below wr.heap.size wr W → W.cell? ⟨blk, off + i * 3 + 1, none⟩ = some (strV key) ∧ W.cell? ⟨blk, off + i * 3 + 2, none⟩ = some (strV val) := fun W hW => ⟨(hW.cell (p := ⟨blk, off + i * 3 + 1, none⟩) hbl).trans x1, (hW.cell (p := ⟨blk, off + i * 3 + 2, none⟩) hbl).trans x2⟩
        have HF := Lib.hid hF
        have HP := Lib.hid hP
        have HX := Lib.hid hX
        have HA := Lib.hid (And.intro hpg hS)
        clear hF hP hX hpg hT hS hx hown hgg hg hgl m1 m2 g1 g2 g3
        go_wp2_with (fail)
        refine wp_region_any (by kernel_rfl) ?_
        change wpAny _ _ _ _ _ _ _ (World.drew _)
        try simp only [Act.put, lT, l0, lS]
        refine tk 0 (v := ?_) rfl (by kernel_rfl) (fun _ _ _ h => h) (by rfl) ?hy ?_
        case hy => intro w; go_simp; try with_reducible rfl
        try simp only [Act.put, lT, l0, lS]
        refine tk 1 (v := ?_) rfl (by kernel_rfl) (fun _ _ _ h => h) (by rfl) ?hy ?_
        case hy => intro w; go_simp; try with_reducible rfl
        try simp only [Act.put, lT, l0, lS]
        refine tk 2 (v := ?_) rfl (by kernel_rfl) (fun _ _ _ h => h) (by rfl) ?hy ?_
        case hy => intro w; go_simp; try with_reducible rfl
        try simp only [Act.put, lT, l0, lS]
        refine tk 3 (v := ?_) rfl (by kernel_rfl) (fun _ _ _ h => h) (by rfl) ?hy ?_
        case hy => intro w; go_simp; try with_reducible rfl
        try simp only [Act.put, lT, l0, lS]
        refine tk 4 (v := ?_) rfl (by kernel_rfl) (fun _ _ _ h => h) (by rfl) ?hy ?_
        case hy => intro w; go_simp; try with_reducible rfl
        try simp only [Act.put, lT, l0, lS]
        refine tk 6 (v := ?_) rfl (by kernel_rfl) (fun _ _ _ h => h) (by rfl) ?hy ?_
        case hy => intro w; go_simp; try with_reducible rfl
        try simp only [Act.put, lT, l0, lS]
        refine tk 7 (v := ?_) rfl (by kernel_rfl) (fun _ _ _ h => h) (by rfl) ?hy ?_
        case hy => intro w; go_simp; try with_reducible rfl
        try simp only [Act.put, lT, l0, lS]
        refine tk 8 (v := ?_) rfl (by kernel_rfl) (fun _ _ _ h => h) (by rfl) ?hy ?_
        case hy => intro w; go_simp; try with_reducible rfl
        try simp only [Act.put, lT, l0, lS]
        refine tk 9 (v := ?_) rfl (by kernel_rfl) (fun _ _ _ h => h) (by rfl) ?hy ?_
        case hy => intro w; go_simp; try with_reducible rfl
        try simp only [Act.put, lT, l0, lS]
        try simp only [Act.put, lT, l0, lS]
        refine tkR 5 (v := ?_) rfl (by kernel_rfl) (fun _ _ _ h => h) (by rfl) ?hy ?_
        case hy => intro w hE; have q0 := hE.cell x1; go_simp; try with_reducible rfl
        try simp only [Act.put, lT, l0, lS]
        try simp only [Act.put, lT, l0, lS]
        refine tkR 10 (v := ?_) rfl (by kernel_rfl) (fun _ _ _ h => h) (by rfl) ?hy ?_
        case hy => intro w hE; have q0 := hE.cell x2; go_simp; try with_reducible rfl
        try simp only [Act.put, lT, l0, lS]
        refine rd 11 (by kernel_rfl) rfl (fun K hK => ?_)
        go_simp
        (go_must (refine HF.out.mono ?_); rintro e w2 ⟨u, rfl, hu, hb2⟩)
        go_simp
        refine hK _ _ ?_
        clear hK K
        refine rd 12 (by kernel_rfl) rfl (fun K hK => ?_)
        go_simp
        refine hK _ _ ?_
        clear hK K
        try simp only [Act.put, lT, l0, lS]
        refine tk 13 (v := ?_) rfl (by kernel_rfl) (fun _ _ _ h => h) (by rfl) ?hy ?_
        case hy => intro w; go_simp; try with_reducible rfl
        try simp only [Act.put, lT, l0, lS]
        refine tk 14 (v := ?_) rfl (by kernel_rfl) (fun _ _ _ h => h) (by rfl) ?hy ?_
        case hy => intro w; go_simp; try with_reducible rfl
        try simp only [Act.put, lT, l0, lS]
        refine rd 15 (by kernel_rfl) rfl (fun K hK => ?_)
        go_simp
        refine hK _ _ ?_
        clear hK K
        refine rd 16 (by kernel_rfl) rfl (fun K hK => ?_)
        go_simp
        refine hK _ _ ?_
        clear hK K
        refine wpAny_done (by kernel_rfl) ?_ _
        have hb2' : Below wr.heap.size wr w2 := ((Below.refl _ wr).drew).trans hb2
        obtain ⟨y1, y2⟩ := HX.out w2 hb2'
        have HP2 := Lib.hid (HP.out w2 hb2')
        have HU := Lib.hid hu
        have HB2 := Lib.hid hb2'
        clear hu hb2 hb2'
        go_wp2_with (fail)
        refine wp_region_any (by kernel_rfl) ?_
        change wpAny _ _ _ _ _ _ _ (World.drew _)
        try simp only [Act.put, lT, l0, lS]
        refine tk 0 (v := ?_) rfl (by kernel_rfl) (fun _ _ _ h => h) (by rfl) ?hy ?_
        case hy => intro w; go_simp; try with_reducible rfl
        try simp only [Act.put, lT, l0, lS]
        refine tk 1 (v := ?_) rfl (by kernel_rfl) (fun _ _ _ h => h) (by rfl) ?hy ?_
        case hy => intro w; go_simp; try with_reducible rfl
        try simp only [Act.put, lT, l0, lS]
        refine tk 2 (v := ?_) rfl (by kernel_rfl) (fun _ _ _ h => h) (by rfl) ?hy ?_
        case hy => intro w; go_simp; try with_reducible rfl
        try simp only [Act.put, lT, l0, lS]
        refine tk 3 (v := ?_) rfl (by kernel_rfl) (fun _ _ _ h => h) (by rfl) ?hy ?_
        case hy => intro w; go_simp; try with_reducible rfl
        try simp only [Act.put, lT, l0, lS]
        refine tk 4 (v := ?_) rfl (by kernel_rfl) (fun _ _ _ h => h) (by rfl) ?hy ?_
        case hy => intro w; go_simp; try with_reducible rfl
        try simp only [Act.put, lT, l0, lS]
        refine tk 5 (v := ?_) rfl (by kernel_rfl) (fun _ _ _ h => h) (by rfl) ?hy ?_
        case hy => intro w; go_simp; try with_reducible rfl
        try simp only [Act.put, lT, l0, lS]
        refine tk 7 (v := ?_) rfl (by kernel_rfl) (fun _ _ _ h => h) (by rfl) ?hy ?_
        case hy => intro w; go_simp; try with_reducible rfl
        try simp only [Act.put, lT, l0, lS]
        refine tk 8 (v := ?_) rfl (by kernel_rfl) (fun _ _ _ h => h) (by rfl) ?hy ?_
        case hy => intro w; go_simp; try with_reducible rfl
        try simp only [Act.put, lT, l0, lS]
        refine tk 9 (v := ?_) rfl (by kernel_rfl) (fun _ _ _ h => h) (by rfl) ?hy ?_
        case hy => intro w; go_simp; try with_reducible rfl
        try simp only [Act.put, lT, l0, lS]
        refine tk 10 (v := ?_) rfl (by kernel_rfl) (fun _ _ _ h => h) (by rfl) ?hy ?_
        case hy => intro w; go_simp; try with_reducible rfl
        try simp only [Act.put, lT, l0, lS]
        try simp only [Act.put, lT, l0, lS]
        refine tkR 6 (v := ?_) rfl (by kernel_rfl) (fun _ _ _ h => h) (by rfl) ?hy ?_
        case hy => intro w hE; have q0 := hE.cell y1; go_simp; try with_reducible rfl
        try simp only [Act.put, lT, l0, lS]
        try simp only [Act.put, lT, l0, lS]
        refine tkR 11 (v := ?_) rfl (by kernel_rfl) (fun _ _ _ h => h) (by rfl) ?hy ?_
        case hy => intro w hE; have q0 := hE.cell y2; go_simp; try with_reducible rfl
        try simp only [Act.put, lT, l0, lS]
        refine rd 12 (by kernel_rfl) rfl (fun K hK => ?_)
        go_simp
        (go_must (refine HP2.out.mono ?_); intro e w3 hput)
        obtain ⟨r', rfl, hG', hb3⟩ := Gr.put hsz HA.out.1 HA.out.2 HB2.out HU.out hput
        have HG' := Lib.hid hG'
        have HB3 := Lib.hid hb3
        clear hG' hb3 hput
        go_simp
        refine hK _ _ ?_
        clear hK K
        refine rd 13 (by kernel_rfl) rfl (fun K hK => ?_)
        go_simp
        refine hK _ _ ?_
        clear hK K
        try simp only [Act.put, lT, l0, lS]
        refine tk 14 (v := ?_) rfl (by kernel_rfl) (fun _ _ _ h => h) (by rfl) ?hy ?_
        case hy => intro w; go_simp; try with_reducible rfl
        try simp only [Act.put, lT, l0, lS]
        refine tk 15 (v := ?_) rfl (by kernel_rfl) (fun _ _ _ h => h) (by rfl) ?hy ?_
        case hy => intro w; go_simp; try with_reducible rfl
        try simp only [Act.put, lT, l0, lS]
        refine rd 16 (by kernel_rfl) rfl (fun K hK => ?_)
        go_simp
        refine hK _ _ ?_
        clear hK K
        refine rd 17 (by kernel_rfl) rfl (fun K hK => ?_)
        go_simp
        refine hK _ _ ?_
        clear hK K
        refine wpAny_done (by kernel_rfl) ?_ _
        go_wp2_with (fail)
        go_roundg (gk - 1)
        case measure => omega
        case rel => exact ⟨r', i + 1, rfl, by simp, by omega, by show Gr _ _ _ _ _ _; rw [HST.out]; exact HG'.out, hbw.out.trans HB3.out⟩
      | false =>
        have hnot := goodKV_not hgd
        rw [hgd] at HST
        have hF := refPut_bad X t.length cx key val wr.drew m1 m2 hnot
        have hP : ∀ W, Calls Tryz.prog 30 #[ptrV p, .int .i64 r, strV key, strV val] W _ := fun W => treePut_bad p r key val W m1 m2 hnot
        have hX : ∀ W, Below wr.heap.size wr W → W.cell? ⟨blk, off + i * 3 + 1, none⟩ = some (strV key) ∧ W.cell? ⟨blk, off + i * 3 + 2, none⟩ = some (strV val) := fun W hW => ⟨(hW.cell (p := ⟨blk, off + i * 3 + 1, none⟩) hbl).trans x1, (hW.cell (p := ⟨blk, off + i * 3 + 2, none⟩) hbl).trans x2⟩
        obtain ⟨y1, y2⟩ := hX wr.drew ((Below.refl _ wr).drew)
        have HF := Lib.hid hF
        have HP := Lib.hid hP
        clear hF hP hX hpg hT hS hx hown hgg hgl m1 m2
        go_wp2_with (fail)
        refine wp_region_any (by kernel_rfl) ?_
        change wpAny _ _ _ _ _ _ _ (World.drew _)
        try simp only [Act.put, lT, l0, lS]
        refine tk 0 (v := ?_) rfl (by kernel_rfl) (fun _ _ _ h => h) (by rfl) ?hy ?_
        case hy => intro w; go_simp; try with_reducible rfl
        try simp only [Act.put, lT, l0, lS]
        refine tk 1 (v := ?_) rfl (by kernel_rfl) (fun _ _ _ h => h) (by rfl) ?hy ?_
        case hy => intro w; go_simp; try with_reducible rfl
        try simp only [Act.put, lT, l0, lS]
        refine tk 2 (v := ?_) rfl (by kernel_rfl) (fun _ _ _ h => h) (by rfl) ?hy ?_
        case hy => intro w; go_simp; try with_reducible rfl
        try simp only [Act.put, lT, l0, lS]
        refine tk 3 (v := ?_) rfl (by kernel_rfl) (fun _ _ _ h => h) (by rfl) ?hy ?_
        case hy => intro w; go_simp; try with_reducible rfl
        try simp only [Act.put, lT, l0, lS]
        refine tk 4 (v := ?_) rfl (by kernel_rfl) (fun _ _ _ h => h) (by rfl) ?hy ?_
        case hy => intro w; go_simp; try with_reducible rfl
        try simp only [Act.put, lT, l0, lS]
        refine tk 6 (v := ?_) rfl (by kernel_rfl) (fun _ _ _ h => h) (by rfl) ?hy ?_
        case hy => intro w; go_simp; try with_reducible rfl
        try simp only [Act.put, lT, l0, lS]
        refine tk 7 (v := ?_) rfl (by kernel_rfl) (fun _ _ _ h => h) (by rfl) ?hy ?_
        case hy => intro w; go_simp; try with_reducible rfl
        try simp only [Act.put, lT, l0, lS]
        refine tk 8 (v := ?_) rfl (by kernel_rfl) (fun _ _ _ h => h) (by rfl) ?hy ?_
        case hy => intro w; go_simp; try with_reducible rfl
        try simp only [Act.put, lT, l0, lS]
        refine tk 9 (v := ?_) rfl (by kernel_rfl) (fun _ _ _ h => h) (by rfl) ?hy ?_
        case hy => intro w; go_simp; try with_reducible rfl
        try simp only [Act.put, lT, l0, lS]
        try simp only [Act.put, lT, l0, lS]
        refine tkR 5 (v := ?_) rfl (by kernel_rfl) (fun _ _ _ h => h) (by rfl) ?hy ?_
        case hy => intro w hE; have q0 := hE.cell x1; go_simp; try with_reducible rfl
        try simp only [Act.put, lT, l0, lS]
        try simp only [Act.put, lT, l0, lS]
        refine tkR 10 (v := ?_) rfl (by kernel_rfl) (fun _ _ _ h => h) (by rfl) ?hy ?_
        case hy => intro w hE; have q0 := hE.cell x2; go_simp; try with_reducible rfl
        try simp only [Act.put, lT, l0, lS]
        refine rd 11 (by kernel_rfl) rfl (fun K hK => ?_)
        go_simp
        (go_must (refine HF.out.mono ?_); rintro e w2 ⟨rfl, rfl⟩)
        go_simp
        refine hK _ _ ?_
        clear hK K
        refine rd 12 (by kernel_rfl) rfl (fun K hK => ?_)
        go_simp
        refine hK _ _ ?_
        clear hK K
        try simp only [Act.put, lT, l0, lS]
        refine tk 13 (v := ?_) rfl (by kernel_rfl) (fun _ _ _ h => h) (by rfl) ?hy ?_
        case hy => intro w; go_simp; try with_reducible rfl
        try simp only [Act.put, lT, l0, lS]
        refine tk 14 (v := ?_) rfl (by kernel_rfl) (fun _ _ _ h => h) (by rfl) ?hy ?_
        case hy => intro w; go_simp; try with_reducible rfl
        try simp only [Act.put, lT, l0, lS]
        refine rd 15 (by kernel_rfl) rfl (fun K hK => ?_)
        go_simp
        refine hK _ _ ?_
        clear hK K
        refine rd 16 (by kernel_rfl) rfl (fun K hK => ?_)
        go_simp
        refine hK _ _ ?_
        clear hK K
        refine wpAny_done (by kernel_rfl) ?_ _
        go_wp2_with (fail)
        refine wp_region_any (by kernel_rfl) ?_
        change wpAny _ _ _ _ _ _ _ (World.drew _)
        try simp only [Act.put, lT, l0, lS]
        refine tk 0 (v := ?_) rfl (by kernel_rfl) (fun _ _ _ h => h) (by rfl) ?hy ?_
        case hy => intro w; go_simp; try with_reducible rfl
        try simp only [Act.put, lT, l0, lS]
        refine tk 1 (v := ?_) rfl (by kernel_rfl) (fun _ _ _ h => h) (by rfl) ?hy ?_
        case hy => intro w; go_simp; try with_reducible rfl
        try simp only [Act.put, lT, l0, lS]
        refine tk 2 (v := ?_) rfl (by kernel_rfl) (fun _ _ _ h => h) (by rfl) ?hy ?_
        case hy => intro w; go_simp; try with_reducible rfl
        try simp only [Act.put, lT, l0, lS]
        refine tk 3 (v := ?_) rfl (by kernel_rfl) (fun _ _ _ h => h) (by rfl) ?hy ?_
        case hy => intro w; go_simp; try with_reducible rfl
        try simp only [Act.put, lT, l0, lS]
        refine tk 4 (v := ?_) rfl (by kernel_rfl) (fun _ _ _ h => h) (by rfl) ?hy ?_
        case hy => intro w; go_simp; try with_reducible rfl
        try simp only [Act.put, lT, l0, lS]
        refine tk 5 (v := ?_) rfl (by kernel_rfl) (fun _ _ _ h => h) (by rfl) ?hy ?_
        case hy => intro w; go_simp; try with_reducible rfl
        try simp only [Act.put, lT, l0, lS]
        refine tk 7 (v := ?_) rfl (by kernel_rfl) (fun _ _ _ h => h) (by rfl) ?hy ?_
        case hy => intro w; go_simp; try with_reducible rfl
        try simp only [Act.put, lT, l0, lS]
        refine tk 8 (v := ?_) rfl (by kernel_rfl) (fun _ _ _ h => h) (by rfl) ?hy ?_
        case hy => intro w; go_simp; try with_reducible rfl
        try simp only [Act.put, lT, l0, lS]
        refine tk 9 (v := ?_) rfl (by kernel_rfl) (fun _ _ _ h => h) (by rfl) ?hy ?_
        case hy => intro w; go_simp; try with_reducible rfl
        try simp only [Act.put, lT, l0, lS]
        refine tk 10 (v := ?_) rfl (by kernel_rfl) (fun _ _ _ h => h) (by rfl) ?hy ?_
        case hy => intro w; go_simp; try with_reducible rfl
        try simp only [Act.put, lT, l0, lS]
        try simp only [Act.put, lT, l0, lS]
        refine tkR 6 (v := ?_) rfl (by kernel_rfl) (fun _ _ _ h => h) (by rfl) ?hy ?_
        case hy => intro w hE; have q0 := hE.cell y1; go_simp; try with_reducible rfl
        try simp only [Act.put, lT, l0, lS]
        try simp only [Act.put, lT, l0, lS]
        refine tkR 11 (v := ?_) rfl (by kernel_rfl) (fun _ _ _ h => h) (by rfl) ?hy ?_
        case hy => intro w hE; have q0 := hE.cell y2; go_simp; try with_reducible rfl
        try simp only [Act.put, lT, l0, lS]
        refine rd 12 (by kernel_rfl) rfl (fun K hK => ?_)
        go_simp
        (go_must (refine (HP.out _).mono ?_); rintro e w3 ⟨rfl, rfl⟩)
        go_simp
        refine hK _ _ ?_
        clear hK K
        refine rd 13 (by kernel_rfl) rfl (fun K hK => ?_)
        go_simp
        refine hK _ _ ?_
        clear hK K
        try simp only [Act.put, lT, l0, lS]
        refine tk 14 (v := ?_) rfl (by kernel_rfl) (fun _ _ _ h => h) (by rfl) ?hy ?_
        case hy => intro w; go_simp; try with_reducible rfl
        try simp only [Act.put, lT, l0, lS]
        refine tk 15 (v := ?_) rfl (by kernel_rfl) (fun _ _ _ h => h) (by rfl) ?hy ?_
        case hy => intro w; go_simp; try with_reducible rfl
        try simp only [Act.put, lT, l0, lS]
        refine rd 16 (by kernel_rfl) rfl (fun K hK => ?_)
        go_simp
        refine hK _ _ ?_
        clear hK K
        refine rd 17 (by kernel_rfl) rfl (fun K hK => ?_)
        go_simp
        refine hK _ _ ?_
        clear hK K
        refine wpAny_done (by kernel_rfl) ?_ _
        go_wp2_with (fail)
        go_roundg (gk - 1)
        case measure => omega
        case rel => exact ⟨r, i + 1, rfl, by simp, by omega, by show Gr _ _ _ _ _ _; rw [HST.out]; exact hg.out.below ((Below.refl _ wr).drew.drew), hbw.out.drew.drew⟩
    · have h1' : ¬ (i : Int) < (ops.length : Int) := by omega
      have hii : i = ops.length := by omega
      have hg2 := hg.out
      rw [hii, List.take_length] at hg2
      have HG2 := Lib.hid hg2
      clear hg2
      have hown := HG2.out.own
      obtain ⟨X, cx, rfl, _⟩ := Sl.of_own hown
      clear hg hown hii
      go_wp2_with (fail)
      refine bodyPost_ret (v := .tuple #[ptrV p, .int .i64 r, .slice X _ cx, .bool true]) (by simp [results, Tryz.results10, go_sem]; rfl) rfl ?_
      exact ⟨p, r, _, rfl, HG2.out, hbw.out⟩
end Go.Ev
