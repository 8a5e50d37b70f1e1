/-
  tree.Put.
-/
import Derived.Test.YtgfmhppkmogdhaaGreatDoorMBGwUp
import Derived.Test.YtgfmhppkmogdhaaGreatDoorMBGwOverPut
import Derived.Test.YtgfmhppkmogdhaaGreatDoorMBGwEnd
import Derived.Test.YtgfmhppkmogdhaaGreatDoorMBGwLeaves
import Derived.Test.YtgfmhppkmogdhaaGreatDoorMBGwGetLaw
import Derived.Test.YtgfmhppkmogdhaaGreatDoorMBGvCurs
set_option linter.unusedVariables false
set_option linter.unusedSimpArgs false
set_option linter.unusedVariables false
set_option linter.unusedSimpArgs false
namespace Go.Ev
open Go.Proofs Go.RowKit

abbrev itemAgg (it : Item) : Value := .agg #[strV it.key, strV it.val, .int .i64 it.over, .int .i64 it.size]

section
variable {p most cnt : Nat} {c : Pc} {x : Wc} {M : Store} {made dropped : List Int} {w : World}

def ItemP (p : Nat) (x : Wc) (most : Nat) (M : Store) (cnt : Nat) (made dropped : List Int) (k v : Bytes) (w : World) (e : Ending) (w' : World) : Prop :=
  ∃ it x' Mc newc, e = .returned (.tuple #[itemAgg it, .int .i64 0]) ∧ it.key = k ∧ it.right = true ∧ Grow M Mc newc ∧ ValAt Mc it v newc ∧ newc.length ≤ 9 ∧ WkOk w' p x' most Mc (cnt + newc.length) (made ++ newc) dropped ∧ WkK p x x' w w'

set_option maxHeartbeats 4000000 in
set_option maxRecDepth 100000 in
theorem item_big (k v : Bytes) (h : WkOk w p x most M cnt made dropped) (hk1 : 1 ≤ k.length) (hk2 : k.length ≤ 40) (hv1 : 60 < v.length) (hv : v.length ≤ 2000) (hroom : cnt + 12 ≤ most) (hmd : made.length ≤ 50000) :
    Calls Tryz.prog 103 #[ptrV x.b, strV k, strV v] w (ItemP p x most M cnt made dropped k v w) := by
  obtain ⟨i0, hi, hz0, hz1, hz2⟩ := info_parts infoInt
  obtain ⟨n, hn⟩ : ∃ n, v.length = n := ⟨_, rfl⟩
  have hn1 : ¬ (n : Int) ≤ 60 := by omega
  have hv0 : v ≠ [] := by rintro rfl; simp at hv1
  have h1 := h.alloc (.cells #[strV [], strV [], .int .i64 0, .int .i64 0] 107)
  have hb0 : Below w.heap.size w (w.alloc (.cells #[strV [], strV [], .int .i64 0, .int .i64 0] 107)) := (Below.refl _ _).alloc (Nat.le_refl _) _
  have bx0 : Blk (w.alloc (.cells #[strV [], strV [], .int .i64 0, .int .i64 0] 107)) w.heap.size 107 #[strV [], strV [], .int .i64 0, .int .i64 0] := Blk.new _ _ _
  have hsz0 : (w.alloc (.cells #[strV [], strV [], .int .i64 0, .int .i64 0] 107)).heap.size = w.heap.size + 1 := by simp
  have HP := Lib.hid (overPut_ok v _ h1.pg hv0 hv hroom)
  have g0 : (w.alloc (.cells #[strV [], strV [], .int .i64 0, .int .i64 0] 107)).cell? ⟨x.b, 0, none⟩ = some (ptrV p) := h1.blk.cell 0
  have H1 := Lib.hid h1
  have HB := Lib.hid hb0
  have HX := Lib.hid bx0
  have HV := Lib.hid hv1
  have HN := Lib.hid hn
  clear h1 hb0 bx0 hv1
  go_enter Tryz.func103, Tryz.ntmps103
  go_wp2_with (fail)
  go_must (refine HP.out.mono ?_)
  rintro e w1 ⟨id, Mc, ids, c', rfl, hid1, hid2, hch, hg, hpg, hK⟩
  have hw1 := H1.out.pager hpg hK
  have kk1 := WkK.pager (x := x) hK
  have g1 : w1.cell? ⟨x.b, 0, none⟩ = some (ptrV p) := hw1.blk.cell 0
  have hidl := chain_len hch
  have hid9 : ids.length ≤ 9 := by omega
  have hPg := overPages_ok id v ids w1 hpg hch hv (by omega)
  rw [hn] at hPg
  have hbx1 := HX.out.keeps hK.keeps (fun e => by have := h.lt w.heap.size (.inl e); omega)
  have hids : 0 < ids.length := by cases hch <;> simp
  have HPg := Lib.hid hPg
  have HA := Lib.hid (And.intro hch (And.intro hg (And.intro hw1 (And.intro kk1 (And.intro hbx1 hK)))))
  clear hPg hch hg hw1 kk1 hbx1 hpg hK
  go_wp2_with (fail)
  go_must (refine HPg.out.mono ?_)
  rintro e w2 ⟨r, rfl, own2, hb2⟩
  obtain ⟨hch, hg, hw1, kk1, hbx1, hK⟩ := HA.out
  have hw2 := hw1.below hb2
  have hbx2 := Blk.below' hbx1 hb2
  have g2 : w2.cell? ⟨x.b, 1, none⟩ = some x.mv := hw2.blk.cell 1
  rcases own2.2 with ⟨_, h0⟩ | ⟨g, cap, cur, rfl, hgb, hheap, hnc, hcm, hcs, hcx⟩
  · omega
  have hnews : ∀ j u, (intsV ids)[j]? = some u → w2.cell? ((⟨g, 0, none⟩ : Addr).add j) = some u := by
    obtain ⟨_, _, e1, _, _, hcl⟩ := Sl.of_own own2
    cases e1
    obtain ⟨b', o', e2, _, hcl2⟩ := hcl hids
    cases e2
    intro j u hu
    rw [addr_add]
    exact hcl2 j u hu
  have hm1 : made.length + ids.length ≤ maxLen := by unfold maxLen; omega
  have HW2 := Lib.hid hw2
  have HN2 := Lib.hid hnews
  have HBX := Lib.hid hbx2
  have HKK := Lib.hid ((((WkK.of_below HB.out).trans kk1).trans (WkK.of_below hb2)))
  have hzz : w.heap.size + 1 ≤ w1.heap.size := by have := hK.keeps.size; omega
  have hzz2 := hb2.size
  have hns2 : ¬ (⟨c', x.b, x.mv, x.dv⟩ : Wc).S p w.heap.size := fun e => by
    rcases (WkK.pager (x := x) hK).sub _ e with e | e
    · have := h.lt _ e; omega
    · omega
  clear hch hg hw1 kk1 hbx1 hK hcx hcs hheap own2 hnews hw2 hbx2 hb2 HP HPg
  go_wp2_with (at_builtin; go_must (refine wpList_append_at rfl _ _ 89 rfl 0 3 i0 _ 1 8 Tryz.underlying89 hi hz0 hz1 hz2 rfl (by decide) _ made.length (intsV made) rfl HW2.out.mo ⟨g, 0, none⟩ ids.length cap (intsV ids) rfl (by simp [intsV]) HN2.out (ints_one ids) hm1 (by omega) (by omega) ?_))
  intro v4 w4 own4 hg4 hw4
  obtain ⟨h3, kk3⟩ := HW2.out.grownM (l := ids) hg4 own4 hw4
  have bb := HW2.out.blkM hg4
  have z1 : w4.cell? ⟨x.b, 1, none⟩ = some x.mv := bb.cell 1
  have z2 : w4.frozen? ⟨x.b, 1, none⟩ = false := bb.frozen 1
  obtain ⟨A4, c4, rfl, _⟩ := Sl.of_own own4
  have hzz4 := kk3.keeps.size
  have bx4 := HBX.out.keeps kk3.keeps hns2
  have q0 : (w4.setCell ⟨x.b, 1, none⟩ (.slice A4 (made.length + ids.length) c4)).cell? ⟨w.heap.size, 0, none⟩ = some (strV []) := bx4.cell 0
  have q1 : (w4.setCell ⟨x.b, 1, none⟩ (.slice A4 (made.length + ids.length) c4)).cell? ⟨w.heap.size, 1, none⟩ = some (strV []) := bx4.cell 1
  have q2 : (w4.setCell ⟨x.b, 1, none⟩ (.slice A4 (made.length + ids.length) c4)).cell? ⟨w.heap.size, 2, none⟩ = some (.int .i64 0) := bx4.cell 2
  have q3 : (w4.setCell ⟨x.b, 1, none⟩ (.slice A4 (made.length + ids.length) c4)).cell? ⟨w.heap.size, 3, none⟩ = some (.int .i64 0) := bx4.cell 3
  have p0 := bx4.frozen 0
  have p1 := bx4.frozen 1
  have p2 := bx4.frozen 2
  have p3 := bx4.frozen 3
  have hbf : Blk (((((w4.setCell ⟨x.b, 1, none⟩ (.slice A4 (made.length + ids.length) c4)).setCell ⟨w.heap.size, 0, none⟩ (strV k)).setCell ⟨w.heap.size, 1, none⟩ (strV [])).setCell ⟨w.heap.size, 2, none⟩ (.int .i64 id)).setCell ⟨w.heap.size, 3, none⟩ (.int .i64 (n : Int))) w.heap.size 107 #[strV k, strV [], .int .i64 id, .int .i64 (n : Int)] :=
    (((bx4.set 0 (strV k)).set 1 (strV [])).set 2 (.int .i64 id)).set 3 (.int .i64 (n : Int))
  have HE : Hid (ItemP p x most M cnt made dropped k v w (.returned (.tuple #[.agg #[strV k, strV [], .int .i64 id, .int .i64 (n : Int)], .int .i64 0])) (((((w4.setCell ⟨x.b, 1, none⟩ (.slice A4 (made.length + ids.length) c4)).setCell ⟨w.heap.size, 0, none⟩ (strV k)).setCell ⟨w.heap.size, 1, none⟩ (strV [])).setCell ⟨w.heap.size, 2, none⟩ (.int .i64 id)).setCell ⟨w.heap.size, 3, none⟩ (.int .i64 (n : Int)))) := by
    obtain ⟨hch, hg, hw1, kk1, hbx1, hK⟩ := HA.out
    have KF : Keeps (fun j => j = w.heap.size) (w4.setCell ⟨x.b, 1, none⟩ (.slice A4 (made.length + ids.length) c4)) (((((w4.setCell ⟨x.b, 1, none⟩ (.slice A4 (made.length + ids.length) c4)).setCell ⟨w.heap.size, 0, none⟩ (strV k)).setCell ⟨w.heap.size, 1, none⟩ (strV [])).setCell ⟨w.heap.size, 2, none⟩ (.int .i64 id)).setCell ⟨w.heap.size, 3, none⟩ (.int .i64 (n : Int))) :=
      ((((Keeps.refl (fun j => j = w.heap.size) _).setCell (p := ⟨w.heap.size, 0, none⟩) (fun _ => rfl) _).setCell (p := ⟨w.heap.size, 1, none⟩) (fun _ => rfl) _).setCell (p := ⟨w.heap.size, 2, none⟩) (fun _ => rfl) _).setCell (p := ⟨w.heap.size, 3, none⟩) (fun _ => rfl) _
    have hkk := HKK.out.trans kk3
    refine ⟨⟨k, [], id, (n : Int)⟩, _, Mc, ids, rfl, rfl, ?_, hg, .inr ⟨by show id ≠ 0; omega, hch, by show (v.length : Int) = n; rw [HN.out]⟩, hid9, h3.keeps KF (fun j hj e => ?_), hkk.fresh KF (fun j e => by omega)⟩
    · have hnv := HN.out
      have hvv := HV.out
      unfold Item.right inB
      have e1 : id ≠ 0 := by omega
      simp only [e1, if_false, Bool.and_eq_true, decide_eq_true_eq, List.isEmpty_nil, and_true]
      refine ⟨⟨by omega, by omega⟩, ⟨by omega, by omega⟩, by omega, by omega⟩
    · rw [e] at hj
      rcases kk3.sub _ hj with e2 | e2
      · exact hns2 e2
      · omega
  clear own4 hg4 hw4 bb h3 kk3 bx4
  go_wp2_with (fail)
  refine bodyPost_ret (res_row [strV k, strV [], .int .i64 id, .int .i64 (n : Int)] rfl rfl rfl (by kernel_rfl) hbf) rfl ?_
  exact HE.out

theorem item_any (k v : Bytes) (h : WkOk w p x most M cnt made dropped) (hk1 : 1 ≤ k.length) (hk2 : k.length ≤ 40) (hv : v.length ≤ 2000) (hroom : cnt + 12 ≤ most) (hmd : made.length ≤ 50000) :
    Calls Tryz.prog 103 #[ptrV x.b, strV k, strV v] w (ItemP p x most M cnt made dropped k v w) := by
  by_cases h60 : v.length ≤ 60
  · refine (item_small k v w h60).mono ?_
    rintro e w' ⟨rfl, hb⟩
    refine ⟨⟨k, v, 0, 0⟩, x, M, [], rfl, rfl, ?_, Grow.refl M, .inl ⟨rfl, rfl, rfl⟩, by simp, by simpa using h.below hb, WkK.of_below hb⟩
    unfold Item.right inB
    simp only [if_true, Bool.and_eq_true, decide_eq_true_eq]
    exact ⟨⟨by omega, by omega⟩, trivial, h60⟩
  · exact item_big k v h hk1 hk2 (by omega) hv hroom hmd

theorem old_any (A : Option Addr) (n cc : Nat) (l : List Item) (k : Bytes) (ps : List Pair) (old : List Int) (h : WkOk w p x most M cnt made dropped) (hv : Sl w 4 (.slice A n cc) n (itemsCs l)) (hn : n ≤ 100000) (hr : riseI l = true) (hold : OldAt M l k ps old) (hs : Short ps) (hdl : dropped.length ≤ 100000) :
    Calls Tryz.prog 102 #[ptrV x.b, .slice A n cc, strV k] w (OldP p x most M cnt made dropped old w) := by
  rcases hold with ⟨h1, rfl⟩ | ⟨it, v', h1, h2, h3, h4⟩
  · refine (old_none (x := x) A n cc l k w hv hn hr (.inl h1)).mono ?_
    rintro e w' ⟨rfl, hb⟩
    exact ⟨rfl, x, by simpa using h.below hb, WkK.of_below hb⟩
  · by_cases ho : it.over = 0
    · obtain ⟨_, _, rfl⟩ := h3.resolve_right (fun e => e.1 ho)
      refine (old_none (x := x) A n cc l k w hv hn hr (.inr ⟨it, h2, ho⟩)).mono ?_
      rintro e w' ⟨rfl, hb⟩
      exact ⟨rfl, x, by simpa using h.below hb, WkK.of_below hb⟩
    · exact old_chain A n cc l k it v' old w h hv hn hr h1 h2 ho h3 (hs _ h4) (by have := val_len h3 (hs _ h4); omega) hdl

theorem ItemsOk.of {l : List Item} (hr : riseI l = true) (hl : (layI l).length ≤ 344) (hn : l.length ≤ 90000) : ItemsOk l := by
  refine ⟨fun y hy => ?_, fun y hy => ?_, by omega, by omega⟩
  · have := riseI_right hr y hy
    have hk := Item.right_key this
    unfold Item.right inB at this
    simp only [Bool.and_eq_true, decide_eq_true_eq] at this
    obtain ⟨_, h2⟩ := this
    refine ⟨by omega, ?_⟩
    by_cases ho : y.over = 0
    · rw [if_pos ho] at h2
      simp only [Bool.and_eq_true, decide_eq_true_eq] at h2
      omega
    · rw [if_neg ho] at h2
      simp only [Bool.and_eq_true, decide_eq_true_eq, List.isEmpty_iff] at h2
      rw [h2.2]
      simp
  · have := riseI_right hr y hy
    unfold Item.right inB at this
    simp only [Bool.and_eq_true, decide_eq_true_eq] at this
    obtain ⟨_, h2⟩ := this
    by_cases ho : y.over = 0
    · rw [if_pos ho] at h2
      simp only [Bool.and_eq_true, decide_eq_true_eq] at h2
      exact ⟨⟨by omega, by omega⟩, ⟨by omega, by omega⟩⟩
    · rw [if_neg ho] at h2
      simp only [Bool.and_eq_true, decide_eq_true_eq] at h2
      exact ⟨⟨by omega, by omega⟩, ⟨by omega, by omega⟩⟩

theorem layI_ge : ∀ l : List Item, l.length ≤ (layI l).length
  | [] => Nat.le_refl _
  | y :: l => by
    have h1 := layI_ge l
    have h2 := List.length_pos_iff.2 (Item.lay_ne y [])
    simp only [List.append_nil] at h2
    simp only [layI, List.length_append, List.length_cons]
    omega

theorem old_len {M : Store} {l : List Item} {k : Bytes} {ps : List Pair} {old : List Int} (h : OldAt M l k ps old) (hs : Short ps) : old.length ≤ 9 := by
  rcases h with ⟨_, rfl⟩ | ⟨it, v', _, _, h3, h4⟩
  · simp
  · exact val_len h3 (hs _ h4)

def LeafAnyP (p : Nat) (x : Wc) (most : Nat) (M : Store) (cnt : Nat) (made dropped : List Int) (l : List Item) (w : World) (e : Ending) (w' : World) : Prop :=
  ∃ kids M' new x' v, e = .returned (.tuple #[v, .int .i64 0]) ∧ LaidI M l kids M' new ∧ OwnsC w' w.heap.size v kids ∧ (∀ k, v.ownBlock = some k → ¬ x'.S p k) ∧ WkOk w' p x' most M' (cnt + new.length) (made ++ new) dropped ∧ WkK p x x' w w'

theorem leaves_any (A : Option Addr) (n cc : Nat) (l : List Item) (h : WkOk w p x most M cnt made dropped) (hv : Sl w 4 (.slice A n cc) n (itemsCs l)) (hf : FitI l) (hn : n ≤ 90000) (hroom : cnt + 4 ≤ most) (hmd : made.length + 1 ≤ 100000) :
    Calls Tryz.prog 105 #[ptrV x.b, .slice A n cc] w (LeafAnyP p x most M cnt made dropped l w) := by
  have hl := hv.len4
  have hok := ItemsOk.of hf.rise hf.len (by omega)
  rcases hf.fit with hs | ⟨hs, z, ra, y, rb, h1, h2, h3, h4, h5⟩
  · refine (leaves1_ok A n cc l h hv hok hf.rise hs (by omega) (by omega)).mono ?_
    rintro e w' ⟨id, x', v, rfl, k1, k2, k3, k4, k5, k6, k7⟩
    exact ⟨_, _, [id], x', v, rfl, .inl ⟨id, hs, k1, k2, k3, rfl, rfl, rfl⟩, k4, k5, k6, k7⟩
  · have happ := splitI_app h1
    have hll : (z :: ra).length + (y :: rb).length = l.length := by rw [← happ, List.length_append]
    refine (leaves2_ok A n cc l (z :: ra) (y :: rb) y rb h hv hok hn hf.rise hs h1 rfl h2 h3 (.of h2 (by omega) (by omega)) (.of h3 (by omega) (by omega)) h4 h5 hroom hmd).mono ?_
    rintro e w' ⟨i1, i2, x', v, rfl, k1, k2, k3, k4, k5, k6, k7, k8, k9, k10⟩
    exact ⟨_, _, [i1, i2], x', v, rfl, .inr ⟨z :: ra, y, rb, i1, i2, hs, h1, k1, k2, k3, k4, k5, k6, rfl, rfl, rfl⟩, k7, k8, k9, k10⟩

theorem Way.trail {M : Store} {key : Bytes} {k : Nat} {id lid : Int} {P : List (Int × Nat × List Child)} {items : List Item} (h : Way M key k id P lid items) : Trail M key id P lid items := by
  induction h with
  | leaf h1 h2 h3 h4 h5 => exact .leaf h1 h2 h3
  | branch h1 h2 h3 h4 h5 h6 _ ih => exact .branch h1 h2 h3 h6 ih

theorem Way.at {M : Store} {key : Bytes} {k : Nat} {id lid : Int} {P : List (Int × Nat × List Child)} {items : List Item} (h : Way M key k id P lid items) : ∀ s ∈ P, s.2.1 < s.2.2.length := by
  induction h with
  | leaf h1 h2 h3 h4 h5 => intro s hs; simp at hs
  | branch h1 h2 h3 h4 h5 h6 _ ih =>
    intro s hs
    rcases List.mem_cons.1 hs with rfl | hs
    · exact (List.getElem?_eq_some_iff.1 h6).1
    · exact ih s hs

/-- A tree that has been put into, and its pages. -/
structure TreeOk (M : Store) (root : Int) (ps : List Pair) (cnt : Nat) : Prop where
  ex : ∃ k ids, TreeAt M 2 k root [] none ps ids ∧ ids.Nodup ∧ cnt = ids.length
  short : Short ps

/-- What has been turned so far: blocks from B on, and the pager's. -/
structure Trk (c : Pc) (p B : Nat) (w1 W : World) (x : Wc) : Prop where
  keeps : Keeps (fun j => c.S p j ∨ B ≤ j) w1 W
  sub : ∀ j, x.S p j → c.S p j ∨ B ≤ j
  size : B ≤ W.heap.size
  mb : x.c.mb = c.mb
  db : x.c.db = c.db
  wb : x.c.wb = c.wb

theorem Trk.step {c : Pc} {p B : Nat} {w1 W W' : World} {x x' : Wc} (h : Trk c p B w1 W x) (k : WkK p x x' W W') : Trk c p B w1 W' x' := by
  have hz := k.keeps.size
  have hs := h.size
  exact ⟨h.keeps.trans k.keeps fun i _ e => h.sub i e, fun j e => (k.sub j e).elim (h.sub j) fun e => .inr (by omega), by omega, k.mb.trans h.mb, k.db.trans h.db, k.wb.trans h.wb⟩
theorem Trk.below {c : Pc} {p B : Nat} {w1 W W' : World} {x : Wc} (h : Trk c p B w1 W x) (k : Below W.heap.size W W') : Trk c p B w1 W' x := h.step (WkK.of_below k)

def PutTP (p : Nat) (c : Pc) (most : Nat) (ps : List Pair) (key v : Bytes) (w : World) (e : Ending) (w' : World) : Prop :=
  ∃ root M' c' cnt', e = .returned (.tuple #[.int .i64 root, .int .i64 0]) ∧ TreeOk M' root (insP key v ps) cnt' ∧ PgOk w' p c' most M' cnt' ∧ PgK p c c' w w'

set_option maxHeartbeats 4000000 in
set_option maxRecDepth 100000 in
theorem treePut_ok (root : Int) (key v : Bytes) (ps : List Pair) (n : Nat) (h : PgOk w p c most M cnt) (ht : TreeOk M root ps cnt) (hk1 : 1 ≤ key.length) (hk2 : key.length ≤ 40) (hv : v.length ≤ 2000) (hps : ps.length ≤ n) (hn : n ≤ 511) (hroom : 11 * n + 40 ≤ most ∨ (n ≤ 1 ∧ cnt + 17 ≤ most)) :
    Calls Tryz.prog 30 #[ptrV p, .int .i64 root, strV key, strV v] w (PutTP p c most ps key v w) := by
  obtain ⟨⟨k, ids, hT, hnd, rfl⟩, hsh⟩ := ht
  obtain ⟨hb1, hb2⟩ := tree_bound hsh hT hps
  have hk8 := high_bound hb2 hn
  have hroom : ids.length + 2 * k + 16 ≤ most := by
    rcases hroom with h1 | ⟨h1, h2⟩
    · omega
    · have hk0 : k = 0 := by
        rcases hb2 with e | e
        · exact e
        · cases k with
          | zero => rfl
          | succ k => rw [Nat.pow_succ] at e; have := Nat.one_le_two_pow (n := k); omega
      omega
  obtain ⟨P, lid, items, hway, hPl⟩ := hT.way (lev := 0) key (.inl (by omega)) (by omega) (.inr rfl)
  obtain ⟨hri, hli, ps', old, hps', hold, hlaw⟩ := put_law (v := v) (Nat.le_refl 2) hT hway.trail
  have hat := hway.at
  have hkey := isKey_any key w (by omega)
  have e1 : decide (1 ≤ key.length) = true := by simpa using hk1
  have e2 : decide (key.length ≤ 40) = true := by simpa using hk2
  rw [e1, e2] at hkey
  have hnv2 : ¬ (2000 : Int) < (v.length : Int) := by omega
  have HKey := Lib.hid hkey
  have HWay := Lib.hid (way_ok root key P lid items w h hway)
  have HL := Lib.hid (And.intro hT (And.intro hnd (And.intro hsh (And.intro hri (And.intro hli (And.intro hps' (And.intro hold (And.intro hlaw (And.intro hat (And.intro h hway))))))))))
  clear hkey e1 e2 hT hnd hsh hri hli hps' hold hlaw hat h hway hb2
  go_enter Tryz.func30, Tryz.ntmps30
  go_wp2_with (fail)
  go_must (refine HKey.out.mono ?_)
  rintro e w0 ⟨rfl, rfl⟩
  go_wp2_with (fail)
  go_must (refine HWay.out.mono ?_)
  rintro e w1 ⟨pv, st, vi, rfl, hstp, hgh, hsteps, hIt, hb1⟩
  obtain ⟨Ap, cp, rfl, _⟩ := Sl.of_own hstp
  unfold OwnsI at hIt
  obtain ⟨Ai, ci, rfl, _⟩ := Sl.of_own hIt
  obtain ⟨hT, hnd, hsh, hri, hli, hps', hold, hlaw, hat, h, hway⟩ := HL.out
  have hz1 := hb1.size
  have hz0 := h.lt
  -- the work
  obtain ⟨W2, hW2e⟩ : ∃ W2, W2 = (w1.alloc (.cells #[.int .i64 lid] 3)).alloc (.cells #[ptrV p, .slice none 0 0, .slice (some ⟨w1.heap.size, 0, none⟩) 1 1] 139) := ⟨_, rfl⟩
  have hb12 : Below w1.heap.size w1 W2 := by rw [hW2e]; exact ((Below.refl _ w1).alloc (Nat.le_refl _) _).alloc (by simp) _
  have hz2 : W2.heap.size = w1.heap.size + 2 := by rw [hW2e]; simp
  have hpg2 := (h.below hb1).below hb12
  have hwk : WkOk W2 p ⟨c, w1.heap.size + 1, .slice none 0 0, .slice (some ⟨w1.heap.size, 0, none⟩) 1 1⟩ most M ids.length [] [lid] := by
    refine ⟨hpg2, ?_, (fun e => by have h5 := hz0 (w1.heap.size + 1) e; omega), World.ownsRow_nil _ _ _ _, ?_, (fun j hj => by cases hj), (fun j hj e => ?_), (fun j hj => by cases hj)⟩
    · rw [hW2e]; exact Blk.new' (by simp)
    · rw [hW2e]
      exact own_below (own_base (own_of (heap_alloc_new w1 _) (Nat.le_refl _) (Nat.le_refl _) (by unfold maxLen; omega) rfl rfl (fun j hj => by
        match j with
        | 0 => rfl
        | j + 1 => omega)) (Nat.zero_le _)) ((Below.refl _ _).alloc (Nat.le_refl _) _)
    · simp only [Value.ownBlock, Option.some.injEq] at hj
      have := hz0 _ e
      omega
  have htrk : Trk c p w1.heap.size w1 W2 ⟨c, w1.heap.size + 1, .slice none 0 0, .slice (some ⟨w1.heap.size, 0, none⟩) 1 1⟩ := by
    refine ⟨Keeps.of_below hb12, ?_, by omega, rfl, rfl, rfl⟩
    rintro j (e | e | e | e)
    · exact .inl e
    · simp only at e; exact .inr (by omega)
    · cases e
    · simp only [Value.ownBlock, Option.some.injEq] at e
      exact .inr (by omega)
  have hits : ∀ (W : World) (x : Wc), Trk c p w1.heap.size w1 W x → Sl W 4 (.slice Ai items.length ci) items.length (itemsCs items) := fun W x ht =>
    Sl.of_own (own_keeps hIt ht.keeps fun j hj e => by
      have := hIt.lt j hj
      rcases e with e | e
      · have := hz0 j e; omega
      · omega)
  have hil : items.length ≤ 240 := by have := layI_ge items; omega
  have HOld := Lib.hid (old_any Ai items.length ci items key ps' old hwk (hits _ _ htrk) (by omega) hri hold (fun q hq => hsh q (hps' q hq)) (by simp))
  have HIt := Lib.hid hits
  have HTrk := Lib.hid htrk
  have HS := Lib.hid (And.intro hstp (And.intro hgh (And.intro hsteps (And.intro hIt hb1))))
  have HW2e := Lib.hid hW2e
  have HZ := Lib.hid hz0
  clear hstp hgh hsteps hIt hb1 hT hnd hsh hri hli hps' hold hlaw hat h hway hwk htrk hits hpg2 hb12 hW2e hz0
  go_wp2_with (fail)
  rw [← HW2e.out]
  go_must (refine HOld.out.mono ?_)
  rintro e w3 ⟨rfl, x1, hw1, hk1'⟩
  have htrk := HTrk.out.step hk1'
  have HItem := Lib.hid (item_any key v hw1 hk1 hk2 hv (by omega) (by simp))
  have hx1b := hk1'.same
  simp only at hx1b
  have HTrk := Lib.hid htrk
  clear hw1 hk1' htrk
  rw [hx1b] at HItem
  go_wp2_with (fail)
  go_must (refine HItem.out.mono ?_)
  rintro e w4 ⟨it, x2, Mc, newc, rfl, hit1, hit2, hgr, hva, hn9, hw2, hk2'⟩
  have htrk := HTrk.out.step hk2'
  have hx2b := hk2'.same.trans hx1b
  obtain ⟨hT, hnd, hsh, hri, hli, hps', hold, hlaw, hat, h, hway⟩ := HL.out
  obtain ⟨hfI, hlaw2⟩ := hlaw Mc it newc hit1 hit2 hgr hva
  have hbo : Below w4.heap.size w4 (w4.alloc (.cells #[strV it.key, strV it.val, .int .i64 it.over, .int .i64 it.size] 107)) := (Below.refl _ w4).alloc (Nat.le_refl _) _
  have htrk5 := htrk.below hbo
  have hSet := setI_any Ai items.length ci items it _ (HIt.out _ _ htrk5) (by omega) hri
  have hnS : (setI items it).length ≤ items.length + 1 := by
    unfold setI
    simp only [List.length_append, List.length_cons, List.length_take, List.length_drop]
    have := ahead_le it.key items
    split <;> omega
  have bn : Blk (w4.alloc (.cells #[strV it.key, strV it.val, .int .i64 it.over, .int .i64 it.size] 107)) w4.heap.size 107 #[strV it.key, strV it.val, .int .i64 it.over, .int .i64 it.size] := Blk.new _ _ _
  have b0 : (w4.alloc (.cells #[strV it.key, strV it.val, .int .i64 it.over, .int .i64 it.size] 107)).cell? ⟨w4.heap.size, 0, none⟩ = some (strV it.key) := bn.cell 0
  have b1 : (w4.alloc (.cells #[strV it.key, strV it.val, .int .i64 it.over, .int .i64 it.size] 107)).cell? ⟨w4.heap.size, 1, none⟩ = some (strV it.val) := bn.cell 1
  have b2 : (w4.alloc (.cells #[strV it.key, strV it.val, .int .i64 it.over, .int .i64 it.size] 107)).cell? ⟨w4.heap.size, 2, none⟩ = some (.int .i64 it.over) := bn.cell 2
  have b3 : (w4.alloc (.cells #[strV it.key, strV it.val, .int .i64 it.over, .int .i64 it.size] 107)).cell? ⟨w4.heap.size, 3, none⟩ = some (.int .i64 it.size) := bn.cell 3
  have HSet := Lib.hid hSet
  have HA := Lib.hid (And.intro hlaw2 (And.intro hfI (And.intro hgr (And.intro hw2 (And.intro htrk hn9)))))
  have HX2 := Lib.hid hx2b
  clear hT hnd hsh hri hli hps' hold hlaw hat h hway hlaw2 hgr hva hw2 hk2' htrk htrk5 hSet hbo bn hit1 hit2 HOld HItem HTrk hfI hx2b hx1b
  go_wp2_with (fail)
  go_must (refine HSet.out.mono ?_)
  rintro e w5 ⟨v5, rfl, own5, hb5⟩
  obtain ⟨A5, c5, rfl, _⟩ := Sl.of_own own5
  obtain ⟨hlaw2, hfI, hgr, hw2, htrk, hn9'⟩ := HA.out
  have hb45 : Below w4.heap.size w4 w5 := ((Below.refl _ w4).alloc (Nat.le_refl _) _).trans (hb5.mono (by simp))
  have hLv := leaves_any A5 (setI items it).length c5 (setI items it) (hw2.below hb45) (Sl.of_own own5) hfI (by omega) (by omega) (by simp; omega)
  rw [HX2.out] at hLv
  have htrk := htrk.below hb45
  have hsz5 : w1.heap.size ≤ w5.heap.size := htrk.size
  have HLv := Lib.hid hLv
  have HA := Lib.hid (And.intro hlaw2 (And.intro hgr htrk))
  clear hLv htrk hlaw2 hfI hgr hw2 hb45 hb5 own5 hn9' b0 b1 b2 b3
  go_wp2_with (fail)
  go_must (refine HLv.out.mono ?_)
  rintro e w6 ⟨kids, M1, new1, x3, kv, rfl, hLd, ownk, nsk, hw3, hk3'⟩
  obtain ⟨hlaw2, hgr, htrk⟩ := HA.out
  have htrk := htrk.step hk3'
  have hx3b := hk3'.same.trans HX2.out
  obtain ⟨hfit, hend, hkf, hfin⟩ := hlaw2 kids M1 new1 hLd
  obtain ⟨hT, hnd, hsh, hri, hli, hps', hold, hlaw, hat, h, hway⟩ := HL.out
  obtain ⟨hstp, hgh, hsteps, hIt, hb1⟩ := HS.out
  unfold OwnsC at ownk
  obtain ⟨Ak, ck, rfl, _⟩ := Sl.of_own ownk
  have hz0 := HZ.out
  -- what was made by 'way' lies as it was
  have hkeep : ∀ j, w.heap.size ≤ j → j < w1.heap.size → ¬ (c.S p j ∨ w1.heap.size ≤ j) := fun j h1 h2 e => by
    rcases e with e | e
    · have := hz0 j e; omega
    · omega
  have hst6 := own_base (own_keeps hstp htrk.keeps fun j hj => hkeep j (hstp.lt j hj).1 (hstp.lt j hj).2) (Nat.zero_le _)
  have hstl : st.length = k := by rw [← hPl, ← hgh, List.length_map]
  have hkids6 := own_base ownk (Nat.zero_le _)
  have hstk : StepsOk w6 0 st := fun s hs => ⟨own_base (own_keeps (hsteps s hs).1 htrk.keeps fun j hj => hkeep j ((hsteps s hs).1.lt j hj).1 ((hsteps s hs).1.lt j hj).2) (Nat.zero_le _), (hsteps s hs).2⟩
  have hx3n : ∀ j, w.heap.size ≤ j → j < w1.heap.size → ¬ x3.S p j := fun j h1 h2 e => hkeep j h1 h2 (htrk.sub j e)
  have hnew1 : new1.length ≤ 2 := by
    rcases hLd with ⟨_, _, _, _, _, _, _, rfl⟩ | ⟨_, _, _, _, _, _, _, _, _, _, _, _, _, _, _, rfl⟩ <;> simp
  have hG : (st.map Step.ghost).reverse = P.reverse := by rw [hgh]
  have hUp := up_ok Ap Ak cp ck st kids w6 hw3 hst6 hkids6 (by omega) hstk nsk (fun j hj => hx3n j (hstp.lt j hj).1 (hstp.lt j hj).2)
    (fun s hs j hj => ⟨hx3n j ((hsteps s hs).1.lt j hj).1 ((hsteps s hs).1.lt j hj).2, fun e => by have h5 := ((hsteps s hs).1.lt j hj).2; have h6 := (ownk.lt j e).1; omega⟩)
    (fun s hs => hat s.ghost (by rw [← hgh]; exact List.mem_map_of_mem hs)) (by rw [hG]; exact hfit) (by rw [hG]; exact hend) hkf (by omega) (by simp; omega) (by
      have := old_len hold (fun q hq => hsh q (hps' q hq))
      simp only [List.length_append, List.length_cons, List.length_nil]
      omega)
  rw [hx3b] at hUp
  have HUp := Lib.hid hUp
  have HA := Lib.hid (And.intro hfin (And.intro hgr (And.intro htrk (And.intro hnew1 (And.intro hG (And.intro nsk (And.intro ownk hx3b)))))))
  clear hUp hfin hgr htrk hnew1 hG nsk hlaw2 hLd hw3 hk3' hfit hend hkf hT hnd hsh hri hli hps' hold hlaw hat h hway hstp hgh hsteps hIt hb1 hz0 hkeep hst6 hstl hkids6 hstk hx3n ownk hx3b
  go_wp2_with (fail)
  go_must (refine HUp.out.mono ?_)
  rintro e w7 ⟨root', M', new, x4, rfl, hUE, hw4, hkk, hfr⟩
  obtain ⟨hfin, hgr, htrk, hnew1, hG, nsk, ownk, hx3b⟩ := HA.out
  obtain ⟨hT, hnd, hsh, hri, hli, hps', hold, hlaw, hat, h, hway⟩ := HL.out
  obtain ⟨hstp, hgh, hsteps, hIt, hb1⟩ := HS.out
  have hz0 := HZ.out
  have hk6 := htrk.size
  rw [hG] at hUE hw4
  obtain ⟨hgrow, hroot2, k', ids', hT', hk', hperm⟩ := hfin root' M' new hUE
  obtain ⟨D, hD⟩ : ∃ D, D = lid :: old ++ P.reverse.map (·.1) := ⟨_, rfl⟩
  have hD2 : [lid] ++ old ++ P.reverse.map (·.1) = D := by rw [hD]; rfl
  rw [← hD] at hperm
  rw [hD2] at hw4
  have hall : (ids ++ (newc ++ new1 ++ new)).Nodup := List.nodup_append.2 ⟨hnd, hgrow.nodup, fun a ha b hb e => hT.there a ha (e ▸ hgrow.fresh b hb)⟩
  have hall2 := hperm.nodup_iff.2 hall
  obtain ⟨hn1, hn2, hn3⟩ := List.nodup_append.1 hall2
  have hsome : ∀ i ∈ D, (M' i).isSome = true := by
    intro i hi
    have hm : i ∈ ids ++ (newc ++ new1 ++ new) := hperm.mem_iff.1 (List.mem_append_right _ hi)
    have : M' i ≠ none := by
      by_cases hin : i ∈ newc ++ new1 ++ new
      · exact hgrow.there i hin
      · rw [hgrow.same i hin]
        exact hT.there i ((List.mem_append.1 hm).resolve_right hin)
    cases hq : M' i with
    | none => exact absurd hq this
    | some y => rfl
  have hplen := hperm.length_eq
  simp only [List.length_append] at hplen
  have hold9 := old_len hold (fun q hq => hsh q (hps' q hq))
  have hDl : D.length ≤ 100000 := by
    rw [hD]
    simp only [List.length_append, List.length_cons, List.length_map, List.length_reverse]
    omega
  have hEnd := end_ok hw4 hn2 hsome hDl
  rw [hkk.same, hx3b] at hEnd
  have hTree : TreeOk (dropAll M' D) root' (insP key v ps) (ids.length + newc.length + new1.length + new.length - D.length) := by
    refine ⟨⟨k', ids', hT'.same fun i hi => ?_, hn1, by omega⟩, insP_short hsh hv⟩
    rw [dropAll_at, if_neg fun hm => hn3 i hi i hm rfl]
  have hkeepW : Keeps (c.S p) w w7 := by
    refine ((Keeps.of_below (S := c.S p) hb1).trans htrk.keeps fun i hi e => ?_).trans hfr fun i hi e => ?_
    · rcases e with e | e
      · exact e
      · have := hb1.size; omega
    · rcases e with e | e
      · rcases htrk.sub i e with e | e
        · exact e
        · have := hb1.size; omega
      · have := (ownk.lt i e).1
        have := hb1.size
        omega
  have hsubW : ∀ j, x4.S p j → c.S p j ∨ w.heap.size ≤ j := fun j e => by
    have h5 := hb1.size
    rcases hkk.sub j e with e | e
    · rcases htrk.sub j e with e | e
      · exact .inl e
      · exact .inr (by omega)
    · exact .inr (by omega)
  have hmbs : x4.c.mb = c.mb ∧ x4.c.db = c.db ∧ x4.c.wb = c.wb := ⟨hkk.mb.trans htrk.mb, hkk.db.trans htrk.db, hkk.wb.trans htrk.wb⟩
  have HEnd := Lib.hid hEnd
  have HF := Lib.hid (And.intro hTree (And.intro hkeepW (And.intro hsubW hmbs)))
  clear hEnd hTree hkeepW hsubW hmbs hall hall2 hn1 hn2 hn3 hsome hplen hold9 hDl hperm hD2 hD hgrow hT' hk' hfin hgr htrk hnew1 hG nsk ownk hx3b hT hnd hsh hri hli hps' hold hlaw hat h hway hstp hgh hsteps hIt hb1 hz0 hUE hw4 hkk hfr hroot2
  go_wp2_with (fail)
  go_must (refine HEnd.out.mono ?_)
  rintro e w8 ⟨rfl, c'', hpg8, hk8⟩
  obtain ⟨hTree, hkeepW, hsubW, m1, m2, m3⟩ := HF.out
  have HE : Hid (PutTP p c most ps key v w (.returned (.tuple #[.int .i64 root', .int .i64 0])) w8) := by
    refine ⟨root', _, c'', _, rfl, hTree, hpg8, ⟨hkeepW.trans hk8.keeps fun i hi e => ?_, fun j e => ?_, hk8.mb.trans m1, hk8.db.trans m2, hk8.wb.trans m3⟩⟩
    · rcases hsubW i (.inl e) with e | e
      · exact e
      · omega
    · rcases hk8.sub j e with e | e
      · exact hsubW j (.inl e)
      · have := hkeepW.size; exact .inr (by omega)
  clear hTree hkeepW hsubW m1 m2 m3 hpg8 hk8
  go_wp2_with (fail)
  refine bodyPost_ret (v := .tuple #[.int .i64 root', .int .i64 0]) (by simp [results, Tryz.results30, go_sem]) rfl ?_
  exact HE.out
end
end Go.Ev
