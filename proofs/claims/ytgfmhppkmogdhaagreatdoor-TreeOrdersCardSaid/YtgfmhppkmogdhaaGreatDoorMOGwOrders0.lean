/-
  tree.all: all of a tree is walked; tree.Count, tree.Height, tree.Pages. Two trees beside each other, and the document's pairs in a row.
-/
import Derived.Test.YtgfmhppkmogdhaaGreatDoorMOGwSeeDown
import Derived.Test.YtgfmhppkmogdhaaGreatDoorMOGvLeafDel
import Derived.Test.YtgfmhppkmogdhaaGreatDoorMOGwGetLaw
import Derived.Test.YtgfmhppkmogdhaaGreatDoorMOGwPutT
import Derived.Test.YtgfmhppkmogdhaaGreatDoorMOGwGrown
import Derived.Test.YtgfmhppkmogdhaaGreatDoorMOGwUpNone
set_option linter.unusedVariables false
set_option linter.unusedSimpArgs false
set_option linter.unusedVariables false
set_option linter.unusedSimpArgs false
namespace Go.Ev
open Go.Proofs Go.RowKit

section
variable {p most cnt : Nat} {c : Pc} {M : Store}

def AllP (p : Nat) (ci : List Int) (T ks : Int) (w : World) (e : Ending) (w' : World) : Prop :=
  ∃ b sb iv, e = .returned (.tuple #[ptrV b, .int .i64 0]) ∧ Blk w' b 153 #[ptrV p, iv, .map (some sb), .int .i64 T, .int .i64 ks] ∧ w'.ownsRow w.heap.size 3 1 iv ci.length (intsV (sortZs ci)) ∧ Below w.heap.size w w'

set_option maxHeartbeats 4000000 in
set_option maxRecDepth 100000 in
theorem all_ok (root : Int) (k : Nat) (ps : List Pair) (ci : List Int) (w : World) (h : PgOk w p c most M cnt) (hT : TreeAt M 2 k root [] none ps ci) (hsh : Short ps) (hnd : ci.Nodup) (hfew : ci.length ≤ 100000) (hk : k < 30) (hps : ps.length ≤ 90000) :
    Calls Tryz.prog 108 #[ptrV p, .int .i64 root] w (AllP p ci ((k : Int) + 1) (ps.length : Int) w) := by
  have hMM : ∀ (t : TypeId) (W : World), (Instr.makeMap t none).run Tryz.prog W = .ok (.map (some W.heap.size)) (W.alloc (.map #[] 0)) := fun t W => run_makeMap t W
  obtain ⟨w1, hw1⟩ : ∃ w1, w.alloc (.map #[] 0) = w1 := ⟨_, rfl⟩
  obtain ⟨w2, hw2⟩ : ∃ w2, w1.alloc (.cells #[ptrV p, .slice none 0 0, .map (some w.heap.size), .int .i64 0, .int .i64 0] 153) = w2 := ⟨_, rfl⟩
  have hz1 : w1.heap.size = w.heap.size + 1 := by rw [← hw1]; simp
  have hb2 : Below w.heap.size w w2 := by rw [← hw2, ← hw1]; exact ((Below.refl _ _).alloc (Nat.le_refl _) _).alloc (by simp) _
  have hS : SeeAt w2 p w1.heap.size w.heap.size (.slice none 0 0) [] [] 0 0 0 := ⟨by rw [← hw2]; exact Blk.new _ _ _, World.ownsRow_nil _ _ _ _, by rw [← hw2, ← hw1]; exact (MapI.newM w).allocM _, fun j => by simp [keysE]⟩
  have hpre : DnPre p w1.heap.size w.heap.size c most cnt M k w2 (.slice none 0 0) [] 0 0 root [] [] none ps ci 0 ((k : Int) + 1) := ⟨⟨_, _, hS⟩, h.below hb2, (fun j hj e => by
    have := h.lt j hj
    rcases e with e | e | e
    · omega
    · omega
    · cases e), hT, .inl ⟨rfl, rfl⟩, .inr rfl, hsh, by simpa using hnd, by simpa using hfew, by simp, .inl rfl, by omega, by omega, by omega⟩
  have HD := Lib.hid (seeDown_ok k _ _ _ _ _ root [] [] none ps ci 0 _ hpre)
  simp only [List.nil_append] at HD
  have HB2 := Lib.hid hb2
  have hne : ci ≠ [] := by
    intro e
    cases k with
    | zero => obtain ⟨_, _, _, _, _, _, e2, _⟩ := hT; rw [e] at e2; cases e2
    | succ k => obtain ⟨_, _, _, _, _, _, _, _, _, e2⟩ := hT; rw [e] at e2; cases e2
  have HZ := Lib.hid hz1
  clear h hT hsh hnd hS hpre hb2 hz1 hne
  go_enter Tryz.func108, Tryz.ntmps108
  go_wp2_with (fail)
  go_must (refine HD.out.mono ?_)
  rintro e w3 ⟨rfl, hK⟩
  obtain ⟨iv, l', cc', hA, hO⟩ := hK.ex
  have hbl : Below w.heap.size w w3 := HB2.out.trans (hK.keeps.below HB2.out.size fun i hi e => by
    have := HZ.out
    rcases e with e | e | e
    · omega
    · omega
    · cases e)
  have c1 : w3.cell? ⟨w1.heap.size, 1, none⟩ = some iv := hA.blk.cell 1
  have hbase : ∀ k, iv.ownBlock = some k → w.heap.size ≤ k := fun k e => by
    rcases hO k e with e | e
    · cases e
    · have := HB2.out.size; omega
  have hrow : w3.ownsRow w.heap.size 3 1 iv ci.length (intsV ci) := by
    refine ⟨hA.row.1, ?_⟩
    rcases hA.row.2 with hn | ⟨g, cap, cur, rfl, _, rest⟩
    · exact .inl hn
    · exact .inr ⟨g, cap, cur, rfl, hbase g rfl, rest⟩
  have HSo := Lib.hid (sort_any iv ci w.heap.size w3 hrow (by omega))
  have hne : ∀ k, iv.ownBlock = some k → k ≠ w1.heap.size := own_ne hA.row hA.blk (by decide)
  have HA := Lib.hid (And.intro hA.blk (And.intro hbl hne))
  obtain ⟨Ai, ci', rfl, _⟩ := Sl.of_own hrow
  have HBs := Lib.hid hbase
  clear hK hA hO hbl hrow hne hbase
  go_wp2_with (fail)
  go_must (refine HSo.out.mono ?_)
  rintro e w4 ⟨rfl, hown, hK4⟩
  obtain ⟨hblk, hbl, hne⟩ := HA.out
  have HE : Hid (AllP p ci ((k : Int) + 1) (ps.length : Int) w (.returned (.tuple #[ptrV w1.heap.size, .int .i64 0])) w4) := by
    refine ⟨w1.heap.size, w.heap.size, _, rfl, ?_, hown, hbl.trans (hK4.below hbl.size fun i hi e => by have := HBs.out i e; omega)⟩
    have := hblk.keeps hK4 (fun e => hne _ e rfl)
    simpa using this
  clear hown hK4 hblk hbl hne
  go_wp2_with (fail)
  refine bodyPost_ret (v := .tuple #[ptrV w1.heap.size, .int .i64 0]) (by simp [results, Tryz.results108, go_sem]) rfl ?_
  exact HE.out

theorem treeOk_all {root : Int} {ps : List Pair} {w : World} (h : PgOk w p c most M cnt) (hT : TreeOk M root ps cnt) (hlen : ps.length ≤ 511) :
    ∃ (k : Nat) (ci : List Int), Calls Tryz.prog 108 #[ptrV p, .int .i64 root] w (AllP p ci ((k : Int) + 1) (ps.length : Int) w) ∧ cnt = ci.length ∧ ci.Nodup ∧ k ≤ 8 ∧ ci.length ≤ 6000 := by
  obtain ⟨⟨k, ids, h1, h2, h3⟩, hs⟩ := hT
  obtain ⟨b1, b2⟩ := tree_bound hs h1 (Nat.le_refl _)
  have hk := high_bound b2 hlen
  exact ⟨k, ids, all_ok root k ps ids w h h1 hs h2 (by omega) (by omega) (by omega), h3, h2, hk, by omega⟩

theorem count_ok (root : Int) (ps : List Pair) (w : World) (h : PgOk w p c most M cnt) (hT : TreeOk M root ps cnt) (hlen : ps.length ≤ 511) :
    Calls Tryz.prog 31 #[ptrV p, .int .i64 root] w fun e w' => e = .returned (.tuple #[.int .i64 (ps.length : Int), .int .i64 0]) ∧ Below w.heap.size w w' := by
  obtain ⟨k, ci, hA, _⟩ := treeOk_all h hT hlen
  have HA := Lib.hid hA
  clear hA h hT
  go_enter Tryz.func31, Tryz.ntmps31
  go_wp2_with (fail)
  go_must (refine HA.out.mono ?_)
  rintro e w1 ⟨b, sb, iv, rfl, hblk, _, hb⟩
  have c4 : w1.cell? ⟨b, 4, none⟩ = some (.int .i64 (ps.length : Int)) := hblk.cell 4
  go_wp2_with (fail)
  refine bodyPost_ret (v := .tuple #[.int .i64 (ps.length : Int), .int .i64 0]) (by simp [results, Tryz.results31, go_sem]) rfl ?_
  exact ⟨rfl, hb⟩
end
end Go.Ev

set_option linter.unusedVariables false
set_option linter.unusedSimpArgs false
namespace Go.Ev
open Go.Proofs Go.RowKit

/-- A pair put in ahead of all the others. -/
theorem insP_front {q : Pair} {l : List Pair} (h : ∀ p ∈ l, lessB q.1 p.1 = true) : insP q.1 q.2 l = q :: l := by
  cases l with
  | nil => rfl
  | cons p l =>
    have h1 := h p (List.mem_cons_self ..)
    simp [insP, h1, lessB_asymm h1]

theorem insP_drop {all : List Pair} {i : Nat} {q : Pair} (hr : Rising all) (hq : all[i]? = some q) : insP q.1 q.2 (all.drop (i + 1)) = all.drop i := by
  obtain ⟨hlt, he⟩ := List.getElem?_eq_some_iff.1 hq
  rw [insP_front (rising_splitT hr hq).2, List.drop_eq_getElem_cons hlt, he]

/-- What is known of the pairs all along. -/
structure KnO (all : List Pair) : Prop where
  rise : Rising all
  good : GoodP all
  few : all.length ≤ 511

/-- A tree of a pager, with all of the pager's blocks from a place on. -/
structure One (p B : Nat) (S : Nat → Prop) (root : Int) (ps : List Pair) (W : World) : Prop where
  ex : ∃ c M cnt, PgOk W p c 3000 M cnt ∧ TreeOk M root ps cnt ∧ ∀ k, c.S p k ↔ S k
  low : ∀ k, S k → B ≤ k

theorem One.below {p B : Nat} {S : Nat → Prop} {root : Int} {ps : List Pair} {W W' : World} (h : One p B S root ps W) (hb : Below W.heap.size W W') : One p B S root ps W' := by
  obtain ⟨c, M, cnt, h1, h2, h3⟩ := h.ex
  exact ⟨⟨c, M, cnt, h1.below hb, h2, h3⟩, h.low⟩
theorem One.keeps {p B : Nat} {S S' : Nat → Prop} {root : Int} {ps : List Pair} {W W' : World} (h : One p B S root ps W) (hk : Keeps S' W W') (hs : ∀ k, S k → ¬ S' k) : One p B S root ps W' := by
  obtain ⟨c, M, cnt, h1, h2, h3⟩ := h.ex
  exact ⟨⟨c, M, cnt, h1.keeps hk fun k hk => hs k ((h3 k).1 hk), h2, h3⟩, h.low⟩
theorem One.lt {p B : Nat} {S : Nat → Prop} {root : Int} {ps : List Pair} {W : World} (h : One p B S root ps W) : ∀ k, S k → k < W.heap.size := fun k hk => by
  obtain ⟨c, M, cnt, h1, h2, h3⟩ := h.ex
  exact h1.lt k ((h3 k).2 hk)

/-- What a pair's put comes to. -/
def OneP (p B : Nat) (S : Nat → Prop) (ps : List Pair) (w : World) (e : Ending) (w' : World) : Prop :=
  ∃ (r : Int) (S' : Nat → Prop), e = .returned (.tuple #[.int .i64 r, .int .i64 0]) ∧ One p B S' r ps w' ∧ Keeps S w w' ∧ ∀ k, S' k → S k ∨ w.heap.size ≤ k

theorem One.put {p B : Nat} {S : Nat → Prop} {root : Int} {ps : List Pair} {w : World} (h : One p B S root ps w) (hB : B ≤ w.heap.size) (key v : Bytes) (hg : goodKV key v = true) (hps : ps.length ≤ 250) :
    Calls Tryz.prog 30 #[ptrV p, .int .i64 root, strV key, strV v] w (OneP p B S (insP key v ps) w) := by
  obtain ⟨c, M, cnt, h1, h2, h3⟩ := h.ex
  obtain ⟨g1, g2, g3⟩ := goodKV_of hg
  refine (treePut_ok root key v ps 250 h1 h2 g1 g2 g3 hps (by omega) (by omega)).mono ?_
  rintro e w' ⟨r, M', c', cnt', rfl, hT, hP, hK⟩
  refine ⟨r, fun k => c'.S p k, rfl, ⟨⟨c', M', cnt', hP, hT, fun k => Iff.rfl⟩, fun k hk => ?_⟩, hK.keeps.mono fun k _ e => (h3 k).1 e, fun k hk => (hK.sub k hk).imp (fun e => (h3 k).1 e) id⟩
  rcases hK.sub k hk with e | e
  · exact h.low k ((h3 k).1 e)
  · omega

theorem One.get {p B : Nat} {S : Nat → Prop} {root : Int} {all : List Pair} {w : World} (h : One p B S root all w) (hlen : all.length ≤ 511) (hr : Rising all) (hg : GoodP all) {i : Nat} {q : Pair} (hq : all[i]? = some q) :
    Calls Tryz.prog 25 #[ptrV p, .int .i64 root, strV q.1] w fun e w' => e = .returned (.tuple #[strV q.2, .int .i64 0]) ∧ Below w.heap.size w w' := by
  obtain ⟨c, M, cnt, h1, h2, _⟩ := h.ex
  obtain ⟨g1, g2, g3⟩ := goodKV_of (hg q (List.mem_of_getElem? hq))
  obtain ⟨ha, hi⟩ := ahead_atT hr hq
  refine (treeGet_ok root q.1 all w h1 h2 hlen g1 g2).mono ?_
  rintro e w' ⟨⟨_, v, hv, rfl⟩ | ⟨hn, _⟩, hb⟩
  · rw [ha, hq] at hv
    obtain rfl : v = q.2 := (congrArg Prod.snd (Option.some.inj hv)).symm
    exact ⟨rfl, hb⟩
  · rw [hi] at hn
    cases hn

theorem One.count {p B : Nat} {S : Nat → Prop} {root : Int} {ps : List Pair} {w : World} (h : One p B S root ps w) (hlen : ps.length ≤ 511) :
    Calls Tryz.prog 31 #[ptrV p, .int .i64 root] w fun e w' => e = .returned (.tuple #[.int .i64 (ps.length : Int), .int .i64 0]) ∧ Below w.heap.size w w' := by
  obtain ⟨c, M, cnt, h1, h2, _⟩ := h.ex
  exact count_ok root ps w h1 h2 hlen

/-- Two trees, and a row of pairs, none of which has a block of the others. -/
structure Two (B p q : Nat) (Sa Sb : Nat → Prop) (x : Value) (n : Nat) (t : List Pair) (ra : Int) (pa : List Pair) (rb : Int) (pb : List Pair) (W : World) : Prop where
  a : One p B Sa ra pa W
  b : One q B Sb rb pb W
  row : W.ownsRow B 44 2 x n (pairsCs t)
  ab : ∀ k, Sa k → ¬ Sb k
  xa : ∀ k, x.ownBlock = some k → ¬ Sa k
  xb : ∀ k, x.ownBlock = some k → ¬ Sb k
  size : B ≤ W.heap.size

section
variable {B p q n n' : Nat} {Sa Sb Sa' Sb' : Nat → Prop} {x u : Value} {t t' : List Pair} {ra rb ra' rb' : Int} {pa pb pa' pb' : List Pair} {W W1 W' : World}
theorem Two.below (h : Two B p q Sa Sb x n t ra pa rb pb W) (hb : Below W.heap.size W W') : Two B p q Sa Sb x n t ra pa rb pb W' :=
  ⟨h.a.below hb, h.b.below hb, own_below h.row hb, h.ab, h.xa, h.xb, Nat.le_trans h.size hb.size⟩
theorem Two.newRow (h : Two B p q Sa Sb x n t ra pa rb pb W) (hb : Below W.heap.size W W') (hu : W'.ownsRow W.heap.size 44 2 u n' (pairsCs t')) : Two B p q Sa Sb u n' t' ra pa rb pb W' :=
  ⟨h.a.below hb, h.b.below hb, own_base hu h.size, h.ab, fun k hk e => by have := (hu.lt k hk).1; have := h.a.lt k e; omega, fun k hk e => by have := (hu.lt k hk).1; have := h.b.lt k e; omega, Nat.le_trans h.size hb.size⟩
theorem Two.putA {e : Ending} (h : Two B p q Sa Sb x n t ra pa rb pb W) (hb : Below W.heap.size W W1) (hp : OneP p B Sa pa' W1 e W') : ∃ r Sa', e = .returned (.tuple #[.int .i64 r, .int .i64 0]) ∧ Two B p q Sa' Sb x n t r pa' rb pb W' ∧ Below B W W' := by
  obtain ⟨r, S', rfl, h1, h2, h3⟩ := hp
  have hz := hb.size
  have hb1 := h.below hb
  refine ⟨r, S', rfl, ⟨h1, hb1.b.keeps h2 (fun k e f => h.ab k f e), own_keeps hb1.row h2 h.xa, fun k e f => ?_, fun k hk e => ?_, h.xb, Nat.le_trans h.size (Nat.le_trans hz h2.size)⟩, (hb.mono h.size).trans (h2.below (Nat.le_trans h.size hz) fun i hi e => by have := h.a.low i e; omega)⟩
  · rcases h3 k e with e | e
    · exact h.ab k e f
    · have := h.b.lt k f; omega
  · rcases h3 k e with e | e
    · exact h.xa k hk e
    · have := (h.row.lt k hk).2; omega
theorem Two.putB {e : Ending} (h : Two B p q Sa Sb x n t ra pa rb pb W) (hb : Below W.heap.size W W1) (hp : OneP q B Sb pb' W1 e W') : ∃ r Sb', e = .returned (.tuple #[.int .i64 r, .int .i64 0]) ∧ Two B p q Sa Sb' x n t ra pa r pb' W' ∧ Below B W W' := by
  obtain ⟨r, S', rfl, h1, h2, h3⟩ := hp
  have hz := hb.size
  have hb1 := h.below hb
  refine ⟨r, S', rfl, ⟨hb1.a.keeps h2 (fun k e f => h.ab k e f), h1, own_keeps hb1.row h2 h.xb, fun k e f => ?_, h.xa, fun k hk e => ?_, Nat.le_trans h.size (Nat.le_trans hz h2.size)⟩, (hb.mono h.size).trans (h2.below (Nat.le_trans h.size hz) fun i hi e => by have := h.b.low i e; omega)⟩
  · rcases h3 k f with f | f
    · exact h.ab k e f
    · have := h.a.lt k e; omega
  · rcases h3 k e with e | e
    · exact h.xb k hk e
    · have := (h.row.lt k hk).2; omega
end
end Go.Ev
