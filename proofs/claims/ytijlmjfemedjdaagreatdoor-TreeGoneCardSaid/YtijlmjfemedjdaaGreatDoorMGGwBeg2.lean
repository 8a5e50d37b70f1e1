/-
  A tree that has been deleted from, in short: its history, how many levels it has, an empty one. tree.walk.see: pages that are met the first time. Where a cursor stands: a way into a tree, and how many pairs lie ahead of it. A device, free pages and a pager are made anew. A pager of a first transaction is made anew; law 11's Begin. A pager of a first transaction is made anew; law 11's Begin.
-/
import Derived.Test.YtijlmjfemedjdaaGreatDoorMGGvPutDel
import Derived.Test.YtijlmjfemedjdaaGreatDoorMGGwWalk
import Derived.Test.YtijlmjfemedjdaaGreatDoorMGGwSeal
import Derived.Test.YtijlmjfemedjdaaGreatDoorMGGvFind
import Derived.Carry
import Derived.Test.YtijlmjfemedjdaaGreatDoorMGGvAny2
set_option linter.unusedVariables false
set_option linter.unusedSimpArgs false
namespace Go.Ev
open Go.Lib

theorem TreeAt.one {M : Store} {d : Nat} (hd : 1 ≤ d) : ∀ {k : Nat} {id : Int} {lo : Bytes} {hi : Option Bytes} {ps : List Pair} {ids : List Int}, TreeAt M d k id lo hi ps ids → TreeAt M 1 k id lo hi ps ids
 | 0, _, _, _, _, _, ⟨items, i2, h1, h2, h3, h4, h5, h6⟩ => ⟨items, i2, h1, h2, h3, h4, h5, h6⟩
 | k + 1, _, _, _, _, _, ⟨c, L, i2, h1, h2, h3, h4, h5, h6, h7⟩ => ⟨c, L, i2, h1, h2, h3, by omega, h5, h6.mono fun _ _ _ _ _ _ ht => ⟨TreeAt.one hd ht.1, ht.2⟩, h7⟩

theorem TopAt.of2 {M : Store} {k : Nat} {root : Int} {ps : List Pair} {ids : List Int} (h : TreeAt M 2 k root [] none ps ids) : TopAt M k root ps ids := by
 refine ⟨h.one (by omega), ?_⟩
 cases k with
 | zero => exact .inl rfl
 | succ k =>
  obtain ⟨c, L, i2, h1, h2, h3, h4, h5, h6, h7⟩ := h
  refine .inr ?_
  rw [kidsAt_of h1 h2 h3]
  simp only [headKey, List.length_cons]
  omega

/-- Each level has a page. -/
theorem TreeAt.levels {M : Store} {d : Nat} : ∀ {k : Nat} {id : Int} {lo : Bytes} {hi : Option Bytes} {ps : List Pair} {ids : List Int}, TreeAt M d k id lo hi ps ids → k + 1 ≤ ids.length
 | 0, _, _, _, _, _, ⟨items, i2, h1, h2, h3, h4, h5, h6⟩ => by subst h5; simp
 | k + 1, _, _, _, _, _, ⟨c, L, i2, h1, h2, h3, h4, h5, ⟨p1, p2, i1, i3, g1, g2, ⟨g3, _⟩, g5⟩, h7⟩ => by
  have := TreeAt.levels g3
  subst h7 g2
  simp only [List.length_cons, List.length_append]
  omega

/-- An empty tree is one leaf. -/
theorem TreeAt.empty {M : Store} {d : Nat} {k : Nat} {id : Int} {lo : Bytes} {hi : Option Bytes} {ids : List Int} (h : TreeAt M d k id lo hi [] ids) : k = 0 ∧ ids = [id] := by
 cases k with
 | zero =>
  obtain ⟨items, i2, h1, h2, h3, h4, h5, h6⟩ := h
  cases items with
  | nil => obtain ⟨_, rfl⟩ := h4; exact ⟨rfl, h5⟩
  | cons x l => obtain ⟨_, _, _, _, e, _⟩ := h4; cases e
 | succ k =>
  obtain ⟨c, L, i2, h1, h2, h3, h4, h5, ⟨p1, p2, i1, i3, g1, g2, ⟨g3, g4⟩, g5⟩, h7⟩ := h
  have : p1 = [] := List.append_eq_nil_iff.1 g1.symm |>.1
  exact absurd this g4

theorem Hist.same {M M' : Store} {k : Nat} {root : Int} {S : Nat → Nat} {n : Nat} {d : Nat} {lo : Bytes} {hi : Option Bytes} {ps : List Pair} {ids : List Int} (h : Hist M k root S n) (ht : TreeAt M d k root lo hi ps ids) (hs : SameOn M M' ids) : Hist M' k root S n := by
 have e : ∀ (f : List Item → Nat) (g : List Child → Nat) l, meas f g M' k root l = meas f g M k root l := fun f g l => by rw [meas_same ht hs]
 exact ⟨by rw [e]; exact h.pot0, fun l => by rw [e]; exact h.potl l, fun l => by rw [e]; exact h.cnt l, h.top⟩

/-- .. that has been put into n times, and these are its pages. -/
structure TreeH (M : Store) (root : Int) (ps : List Pair) (ids : List Int) (n : Nat) : Prop where
 ex : ∃ k S, TopAt M k root ps ids ∧ Hist M k root S n
 once : ids.Nodup
 short : Short ps

theorem TreeH.same {M M' : Store} {root : Int} {ps : List Pair} {ids : List Int} {n : Nat} (h : TreeH M root ps ids n) (hs : SameOn M M' ids) : TreeH M' root ps ids n := by
 obtain ⟨⟨k, S, h1, h2⟩, h3, h4⟩ := h
 refine ⟨⟨k, S, ⟨h1.tree.same hs, h1.wide.imp id fun e => ?_⟩, h2.same h1.tree hs⟩, h3, h4⟩
 cases k with
 | zero => obtain ⟨items, i2, g1, g2⟩ := h1.tree; unfold kidsAt at e ⊢; rw [hs root (by rw [g2.2.2.2.1]; simp)]; exact e
 | succ k => obtain ⟨c, L, i2, g1, g2⟩ := h1.tree; unfold kidsAt at e ⊢; rw [hs root (by rw [g2.2.2.2.2.2]; simp)]; exact e

theorem TreeH.new {M : Store} {root : Int} (h : M root = some ⟨2, 0, []⟩) : TreeH M root [] [root] 0 :=
 ⟨⟨0, _, ⟨⟨[], [], h, rfl, by simp [layI], ⟨rfl, rfl⟩, rfl, fun q hq => by cases hq⟩, .inl rfl⟩, Hist.new h⟩, by simp, fun q hq => by cases hq⟩

theorem TreeH.there {M : Store} {root : Int} {ps : List Pair} {ids : List Int} {n : Nat} (h : TreeH M root ps ids n) : ∀ i ∈ ids, M i ≠ none := by
 obtain ⟨⟨k, S, h1, h2⟩, h3, h4⟩ := h
 exact h1.tree.there

theorem TreeH.pages {M : Store} {root : Int} {ps : List Pair} {ids : List Int} {n : Nat} (h : TreeH M root ps ids n) (hn : n ≤ 250) (hv : sumV ps ≤ 60000) (hp : ps.length ≤ 250) : ids.length ≤ 1337 := by
 obtain ⟨⟨k, S, h1, h2⟩, h3, h4⟩ := h
 exact h2.pages hn h1 hv hp

/-- A tree of one pair at most is one leaf. -/
theorem TopAt.low {M : Store} {k : Nat} {root : Int} {ps : List Pair} {ids : List Int} (h : TopAt M k root ps ids) (hp : ps.length ≤ 1) : k = 0 := by
 cases k with
 | zero => rfl
 | succ k =>
  exfalso
  obtain ⟨c, L, i2, h1, h2, h3, h4, h5, h6, h7⟩ := h.tree
  have hw := h.wide.resolve_left (by omega)
  rw [kidsAt_of h1 h2 h3] at hw
  cases L with
  | nil => simp [headKey] at hw
  | cons c' L =>
   obtain ⟨p1, p2, j1, j2, e1, e2, ⟨_, g2⟩, ⟨p3, p4, j3, j4, e3, e4, ⟨_, g4⟩, _⟩⟩ := h6
   have a1 := List.length_pos_iff.2 g2
   have a2 := List.length_pos_iff.2 g4
   rw [e1, e3, List.length_append, List.length_append] at hp
   omega

theorem TopAt.leaf2 {M : Store} {root : Int} {ps : List Pair} {ids : List Int} (h : TopAt M 0 root ps ids) : TreeAt M 2 0 root [] none ps ids := by
 obtain ⟨items, i2, h1, h2, h3, h4, h5, h6⟩ := h.tree
 exact ⟨items, i2, h1, h2, h3, h4, h5, h6⟩

/-- What reading a tree asks: it is one, it is not too high, its values are not too long. -/
structure TreeL (M : Store) (root : Int) (all : List Pair) : Prop where
 ex : ∃ k ids, TopAt M k root all ids ∧ k < 30
 short : Short all

/-- Of 20000 puts: seventeen levels at most above the leaves. -/
theorem Hist.high17 {M : Store} {k : Nat} {root : Int} {S : Nat → Nat} {n : Nat} (h : Hist M k root S n) (hn : n ≤ 20000) : k ≤ 17 := by
 have h0 := h.pot0
 have p : ∀ l, 94 * S (l + 1) ≤ 51 * S l := fun l => by have := h.potl l; omega
 have p0 := p 0
 have p1 := p 1
 have p2 := p 2
 have p3 := p 3
 have p4 := p 4
 have p5 := p 5
 have p6 := p 6
 have p7 := p 7
 have p8 := p 8
 have p9 := p 9
 have p10 := p 10
 have p11 := p 11
 have p12 := p 12
 have p13 := p 13
 have p14 := p 14
 have p15 := p 15
 have p16 := p 16
 simp only [Nat.zero_add, Nat.reduceAdd] at p0 p1 p2 p3 p4 p5 p6 p7 p8 p9 p10 p11 p12 p13 p14 p15 p16
 apply Decidable.byContradiction
 intro hk
 have := h.top 17 (by omega)
 omega

theorem TreeH.l {M : Store} {root : Int} {ps : List Pair} {ids : List Int} {n : Nat} (h : TreeH M root ps ids n) (hn : n ≤ 20000) : TreeL M root ps := by
 obtain ⟨⟨k, S, h1, h2⟩, _, h4⟩ := h
 exact ⟨⟨k, ids, h1, by have := h2.high17 hn; omega⟩, h4⟩
end Go.Ev

set_option linter.unusedVariables false
set_option linter.unusedSimpArgs false
namespace Go.Ev
open Go.Proofs Go.RowKit

/-- A walk through a tree: its block, the pages met, the map that has them, the height, the keys. -/
structure SeeAt (w : World) (p b sb : Nat) (iv : Value) (ids : List Int) (l : List Ent) (cc : Nat) (ht ks : Int) : Prop where
 blk : Blk w b 79 #[ptrV p, iv, .map (some sb), .int .i64 ht, .int .i64 ks]
 row : w.ownsRow 0 3 1 iv ids.length (intsV ids)
 map : MapI w sb l cc
 mem : ∀ j, j ∈ keysE l ↔ j ∈ ids

def SeeS (b sb : Nat) (iv : Value) (k : Nat) : Prop := k = b ∨ k = sb ∨ iv.ownBlock = some k

section
variable {w w' : World} {p b sb cc : Nat} {iv : Value} {ids : List Int} {l : List Ent} {ht ks : Int}

theorem SeeAt.keeps {S : Nat → Prop} (h : SeeAt w p b sb iv ids l cc ht ks) (hk : Keeps S w w') (hS : ∀ k, SeeS b sb iv k → ¬ S k) : SeeAt w' p b sb iv ids l cc ht ks :=
 ⟨h.blk.keeps hk (hS _ (.inl rfl)), own_keeps h.row hk fun k hk' => hS _ (.inr (.inr hk')), h.map.keeps hk (hS _ (.inr (.inl rfl))), h.mem⟩
theorem SeeAt.below (h : SeeAt w p b sb iv ids l cc ht ks) (hb : Below w.heap.size w w') : SeeAt w' p b sb iv ids l cc ht ks := h.keeps (S := fun _ => False) (Keeps.of_below hb) fun _ _ h => h
theorem SeeAt.lt (h : SeeAt w p b sb iv ids l cc ht ks) : ∀ k, SeeS b sb iv k → k < w.heap.size := by
 rintro k (rfl | rfl | hk)
 ·exact h.blk.lt
 ·exact h.map.lt
 ·exact (h.row.lt k hk).2

def SeeP (p b sb : Nat) (iv : Value) (ids : List Int) (ht ks : Int) (new : List Int) (w : World) (e : Ending) (w' : World) : Prop :=
 e = .returned (.bool true) ∧ ∃ iv' l' cc', SeeAt w' p b sb iv' (ids ++ new) l' cc' ht ks ∧ Keeps (SeeS b sb iv) w w' ∧ ∀ k, iv'.ownBlock = some k → iv.ownBlock = some k ∨ w.heap.size ≤ k

def seeX (wr : World) (sb : Nat) (l1 : List Ent) (c1 : Nat) (x : Int) : World := (turn (wr.alloc (.cells #[] 185)) sb (putE l1 x (.agg #[]) c1) (clockE l1 x c1)).alloc (.cells #[.int .i64 x] 3)

theorem see_step {wr w4 : World} {iv1 v4 : Value} {idl : List Int} {l1 : List Ent} {c1 : Nat} {x : Int} (hS : SeeAt wr p b sb iv1 idl l1 c1 ht ks) (hw : Keeps (SeeS b sb iv) w wr) (hO : ∀ k, iv1.ownBlock = some k → iv.ownBlock = some k ∨ w.heap.size ≤ k)
  (own4 : w4.ownsRow 0 3 1 v4 (idl.length + 1) (intsV idl ++ [.int .i64 x])) (hg : (seeX wr sb l1 c1 x).grownBy w4 iv1.ownBlock) (hat : ∀ k, v4.ownBlock = some k → iv1.ownBlock = some k ∨ (seeX wr sb l1 c1 x).heap.size ≤ k) :
  SeeAt (w4.setCell ⟨b, 1, none⟩ v4) p b sb v4 (idl ++ [x]) (putE l1 x (.agg #[]) c1) (clockE l1 x c1) ht ks ∧ Keeps (SeeS b sb iv) w (w4.setCell ⟨b, 1, none⟩ v4) ∧ (∀ k, v4.ownBlock = some k → iv.ownBlock = some k ∨ w.heap.size ≤ k) ∧ w4.cell? ⟨b, 1, none⟩ = some iv1 ∧ w4.frozen? ⟨b, 1, none⟩ = false := by
 have hsz : (seeX wr sb l1 c1 x).heap.size = wr.heap.size + 1 + 1 := by simp [seeX, turn_size]
 have hmb : sb ≠ b := hS.map.ne hS.blk
 have hrb : ∀ k, iv1.ownBlock = some k → k ≠ b := own_ne hS.row hS.blk (by decide)
 have hrm : ∀ k, iv1.ownBlock = some k → k ≠ sb := hS.map.ne_own hS.row
 have KA : Keeps (fun k => k = sb) wr (seeX wr sb l1 c1 x) := (turn_keeps ((Keeps.refl (fun k => k = sb) wr).alloc _) (fun _ => rfl) _ _).alloc _
 have KB : Keeps (fun k => iv1.ownBlock = some k) (seeX wr sb l1 c1 x) w4 := (Keeps.refl _ _).grown hg (fun k hk _ => hk)
 have b2 := (hS.blk.keeps KA (fun e => hmb e.symm)).keeps KB (fun e => hrb _ e rfl)
 have hm1 : MapI (seeX wr sb l1 c1 x) sb (putE l1 x (.agg #[]) c1) (clockE l1 x c1) := by
  have h1 : MapI (wr.alloc (.cells #[] 185)) sb l1 c1 := hS.map.keeps (S := fun _ => False) ((Keeps.refl _ wr).alloc _) (fun h => h)
  exact (h1.turned _ _).keeps (S := fun _ => False) ((Keeps.refl _ _).alloc _) (fun h => h)
 have hm2 := hm1.keeps KB (fun e => hrm _ e rfl)
 have hvb : ∀ k, v4.ownBlock = some k → k ≠ b := fun k hk e => by
  rcases hat k hk with h1 | h1
  ·exact hrb k h1 e
  ·have := hS.blk.lt; omega
 have KC : Keeps (fun k => k = b) w4 (w4.setCell ⟨b, 1, none⟩ v4) := (Keeps.refl (fun k => k = b) w4).setCell (p := ⟨b, 1, none⟩) (fun _ => rfl) _
 refine ⟨⟨b2.set 1 v4, ?_, hm2.keeps KC hmb, fun j => ?_⟩, ?_, fun k hk => ?_, b2.cell 1, b2.frozen 1⟩
 ·have := own_keeps own4 KC hvb
  simpa [intsV] using this
 ·rw [keys_put_mem, hS.mem j, List.mem_append, List.mem_singleton]
  exact Or.comm
 ·refine ((hw.trans KA fun i hi e => .inr (.inl e)).trans KB fun i hi e => ?_).trans KC fun i hi e => .inl e
  rcases hO i e with e | e
  ·exact .inr (.inr e)
  ·omega
 ·rcases hat k hk with h1 | h1
  ·exact hO k h1
  ·have := hw.size; exact .inr (by omega)

set_option maxHeartbeats 4000000 in
set_option maxRecDepth 100000 in
theorem see_ok (A : Option Addr) (n c : Nat) (new : List Int) (h : SeeAt w p b sb iv ids l cc ht ks) (hsl : Sl w 1 (.slice A n c) n (intsV new)) (hA : ∀ g o, A = some ⟨g, o, none⟩ → ¬ SeeS b sb iv g) (hnd : new.Nodup) (hdis : ∀ j ∈ new, j ∉ ids) (hn : ids.length + new.length ≤ 100000) :
  Calls Tryz.prog 142 #[ptrV b, .slice A n c] w (SeeP p b sb iv ids ht ks new w) := by
 have hln : n = new.length := by obtain ⟨_, _, _, _, h1, _⟩ := hsl; simp [intsV] at h1; omega
 subst hln
 obtain ⟨j0, hj, hz0, hz1, hz2⟩ := info_parts infoInt
 have HH := Lib.hid (And.intro h (And.intro hsl (And.intro hA (And.intro hnd hdis))))
 clear h hsl hA hnd hdis
 go_enter Tryz.func142, Tryz.ntmps142
 go_wp2_with (fail)
 go_loopg [11] new.length (fun gk s11 wr => ∃ (i : Nat) (iv' : Value) (l' : List Ent) (cc' : Nat), s11 = .int .i64 (i : Int) ∧ i + gk = new.length ∧ Hid (SeeAt wr p b sb iv' (ids ++ new.take i) l' cc' ht ks ∧ Keeps (SeeS b sb iv) w wr ∧ ∀ k, iv'.ownBlock = some k → iv.ownBlock = some k ∨ w.heap.size ≤ k))
 case atStart => exact ⟨0, iv, l, cc, rfl, by omega, by simpa using HH.out.1, Keeps.refl _ _, fun k hk => .inl hk⟩
 case round =>
  obtain ⟨i, iv', l', cc', rfl, hi, hI⟩ := hrel
  by_cases hlt : i < new.length
  ·obtain ⟨h, hsl, hA, hnd, hdis⟩ := HH.out
   obtain ⟨hS, hK, hO⟩ := hI.out
   obtain ⟨x, hx⟩ : ∃ x, x = new[i] := ⟨_, rfl⟩
   have hxn : x ∉ ids ++ new.take i := by
    intro hm
    rcases List.mem_append.1 hm with hm | hm
    ·exact hdis x (by rw [hx]; exact List.getElem_mem ..) hm
    ·obtain ⟨j, hj1, hj2⟩ := List.mem_take_iff_getElem.1 hm
     rw [hx] at hj2
     exact List.pairwise_iff_getElem.1 hnd j i (by omega) hlt (by omega) hj2
   have hgn : getE l' x = none := by
    cases hg : getE l' x with
    | none => rfl
    | some u => exact absurd ((hS.mem x).1 (getE_mem.1 (by rw [hg]; rfl))) hxn
   obtain ⟨Ai, ci, rfl, _⟩ := Sl.of_own hS.row
   have hml : (ids ++ new.take i).length ≤ 100000 := by rw [List.length_append, List.length_take]; omega
   obtain ⟨_, _, e0, _, _, hcl⟩ := hsl
   cases e0
   obtain ⟨ab, ao, rfl, hab, hcell⟩ := hcl (by omega)
   have x0 : wr.cell? ⟨ab, ao + i, none⟩ = some (.int .i64 x) := (hK.cell (p := ⟨ab, ao + i, none⟩) hab (hA _ _ rfl)).trans (hcell i _ (by simp [intsV, hx, hlt]))
   have lk := run_lookup_I (P := Tryz.prog) hS.map Tryz.underlying77 Tryz.underlying3 zero_unit x
   rw [hgn] at lk
   simp only [Option.getD_none, Option.isSome_none] at lk
   have hS1 := hS.below ((Below.refl _ wr).alloc (Nat.le_refl _) (.cells #[] 185))
   have up := run_update_I (P := Tryz.prog) hS1.map Tryz.underlying77 Tryz.underlying3 x (.agg #[])
   have c2 : wr.cell? ⟨b, 2, none⟩ = some (.map (some sb)) := hS.blk.cell 2
   have c2a : (wr.alloc (.cells #[] 185)).cell? ⟨b, 2, none⟩ = some (.map (some sb)) := hS1.blk.cell 2
   have hmb : sb ≠ b := hS.map.ne hS.blk
   have KT : Keeps (fun k => k = sb) wr (turn (wr.alloc (.cells #[] 185)) sb (putE l' x (.agg #[]) cc') (clockE l' x cc')) := turn_keeps ((Keeps.refl (fun k => k = sb) wr).alloc _) (fun _ => rfl) _ _
   have c1 : (turn (wr.alloc (.cells #[] 185)) sb (putE l' x (.agg #[]) cc') (clockE l' x cc')).cell? ⟨b, 1, none⟩ = some (.slice Ai (ids ++ new.take i).length ci) := (hS.blk.keeps KT (fun e => hmb e.symm)).cell 1
   have hOw := own_keeps hS.row (KT.alloc (.cells #[.int .i64 x] 3)) (fun k hk => hS.map.ne_own hS.row k hk)
   have hszT : (turn (wr.alloc (.cells #[] 185)) sb (putE l' x (.agg #[]) cc') (clockE l' x cc')).heap.size = wr.heap.size + 1 := by simp [turn_size]
   have HSt := Lib.hid (fun v4 w4 r1 r2 r3 => see_step (v4 := v4) (w4 := w4) (x := x) hS hK hO r1 r2 r3)
   have HOw := Lib.hid hOw
   have htk : ids ++ new.take (i + 1) = ids ++ new.take i ++ [x] := by rw [List.take_succ_eq_append_getElem hlt, hx, List.append_assoc]
   have HTk := Lib.hid htk
   have hi0 : (0 : Int) ≤ (i : Int) := by omega
   have hlt' : (i : Int) < (new.length : Int) := by omega
   have hw1 : IntKind.i64.wrap ((i : Int) + 1) = (i : Int) + 1 := IntWalk.i64_in _ (by omega)
   obtain ⟨m, hm⟩ : ∃ m, (ids ++ new.take i).length = m := ⟨_, rfl⟩
   rw [hm] at hml c1 HOw HSt
   have HM := Lib.hid hm
   clear hS hK hO hI hA hnd hdis hxn hgn hcl hcell hS1 KT hOw htk hx hm hmb
   go_wp2_with (at_builtin; go_must (refine wpList_append_at rfl _ _ 36 rfl 0 3 j0 _ 1 8 Tryz.underlying36 hj hz0 hz1 hz2 rfl (by decide) _ m (intsV (ids ++ new.take i)) rfl HOw.out ⟨wr.heap.size + 1, 0, none⟩ 1 1 [.int .i64 x] rfl rfl ?_ (by simp [Value.oneCell']) (by unfold maxLen; omega) (by omega) (Nat.zero_le _) ?_))
   ·exact row_new1 _ _ _ _ (by simp [turn_size])
   intro v4 w4 own4 hg4 hat4
   obtain ⟨s1, s2, s3, y1, y2⟩ := HSt.out v4 w4 own4 hg4 (fun k hk => by have := hat4 k hk; simpa [seeX, turn_size] using this)
   have HN := Lib.hid (And.intro s1 (And.intro s2 s3))
   obtain ⟨A4, c4, rfl, _⟩ := Sl.of_own own4
   clear own4 hg4 hat4 s1 s2 s3
   go_wp2_with (fail)
   go_roundg (gk - 1)
   case measure => omega
   case rel => exact ⟨i + 1, _, _, _, by simp, by omega, by rw [HTk.out]; exact HN.out⟩
  ·have hii : i = new.length := by omega
   have HE : Hid (SeeP p b sb iv ids ht ks new w (.returned (.bool true)) wr) := by
    obtain ⟨hS, hK, hO⟩ := hI.out
    rw [hii, List.take_length] at hS
    exact ⟨rfl, iv', l', cc', hS, hK, hO⟩
   have hlt' : ¬ (i : Int) < (new.length : Int) := by omega
   clear hlt hI
   go_wp2_with (fail)
   go_ret
   exact HE.out
end
end Go.Ev

namespace Go.Ev
open Go.Lib

/-- A part of a tree, the way to it, and how many pairs lie ahead of it. -/
inductive Zip (M : Store) (d : Nat) (all : List Pair) : Nat → Int → Bytes → Option Bytes → List Pair → Nat → List (List Child × Nat) → Prop
 | root {h : Nat} {id : Int} {ids : List Int} : TreeAt M d h id [] none all ids → (h = 0 ∨ 2 ≤ (kidsAt M id).length) → h < 30 → Zip M d all h id [] none all 0 []
 | down {k : Nat} {id : Int} {lo : Bytes} {hi : Option Bytes} {ps p1 p2 p3 : List Pair} {off : Nat} {path : List (List Child × Nat)} {c y : Child} {L A B : List Child} {i1 i2 i3 : List Int} : Zip M d all (k + 1) id lo hi ps off path →
   c.key = lo → c :: L = A ++ y :: B → Seg (Sub M d k) A (some y.key) p1 i1 → Sub M d k y.page y.key (nextB B hi) p2 i2 → Seg (Sub M d k) B hi p3 i3 → ps = p1 ++ (p2 ++ p3) →
   Zip M d all k y.page y.key (nextB B hi) p2 (off + p1.length) (path ++ [(headKey [] (c :: L), A.length)])

theorem headKey_pg (k : Bytes) : ∀ (L : List Child) (i : Nat) (x : Child), (headKey k L)[i]? = some x → ∃ y, L[i]? = some y ∧ y.page = x.page
 | [], i, x, h => by simp [headKey] at h
 | c :: L, 0, x, h => by
  simp only [headKey, List.getElem?_cons_zero, Option.some.injEq] at h
  subst h
  exact ⟨c, rfl, rfl⟩
 | c :: L, i + 1, x, h => ⟨x, by simpa [headKey] using h, rfl⟩

section
variable {M : Store} {d k off : Nat} {all ps : List Pair} {id : Int} {lo : Bytes} {hi : Option Bytes} {path : List (List Child × Nat)}

theorem Zip.tree (h : Zip M d all k id lo hi ps off path) : (∃ ids, TreeAt M d k id lo hi ps ids) ∧ (path ≠ [] → ps ≠ []) := by
 cases h with
 | root h => exact ⟨⟨_, h⟩, fun h => absurd rfl h⟩
 | down _ _ _ _ h _ _ => exact ⟨⟨_, h.1⟩, fun _ => h.2⟩

/-- What lies ahead is less than all here, what lies behind is not. -/
theorem Zip.pos (h : Zip M d all k id lo hi ps off path) : ∃ a b, all = a ++ (ps ++ b) ∧ a.length = off ∧ (∀ q ∈ a, lessB q.1 lo = true) ∧ ∀ q ∈ b, ∃ u, hi = some u ∧ lessB q.1 u = false := by
 induction h with
 | root h => exact ⟨[], [], by simp, rfl, fun q hq => by simp at hq, fun q hq => by simp at hq⟩
 | @down k id lo hi ps p1 p2 p3 off path c y L A B i1 i2 i3 hz hr hF s1 s2 s3 hps ih =>
  obtain ⟨a, b, h1, h2, h3, h4⟩ := ih
  subst hps
  -- the lower bound of the parent is not above the child's
  have hlo : ∀ q ∈ a, lessB q.1 y.key = true := by
   intro q hq
   have hq1 := h3 q hq
   cases hAA : A with
   | nil =>
    rw [hAA] at hF
    simp only [List.nil_append, List.cons.injEq] at hF
    rw [← hF.1, hr]
    exact hq1
   | cons x A' =>
    rw [hAA] at hF s1
    simp only [List.cons_append, List.cons.injEq] at hF
    obtain ⟨z, hz'⟩ := List.exists_mem_of_ne_nil _ (s1.ne (by simp))
    have hb := Seg.inR s1 z hz'
    rw [← hF.1, hr] at hb
    exact lessB_trans (lessB_of_lt_le hq1 hb.1) (hb.2 y.key rfl)
  exact ⟨a ++ p1, p3 ++ b, by rw [h1]; simp, by simp [h2], fun q hq => by
   rcases List.mem_append.1 hq with hq | hq
   ·exact hlo q hq
   ·cases hAA : A with
    | nil => rw [hAA] at s1; rw [s1.1] at hq; simp at hq
    | cons x A' => rw [hAA] at s1; exact (Seg.inR s1 q hq).2 y.key rfl, fun q hq => by
   rcases List.mem_append.1 hq with hq | hq
   ·cases hBB : B with
    | nil => rw [hBB] at s3; rw [s3.1] at hq; simp at hq
    | cons b' B' => rw [hBB] at s3; exact ⟨b'.key, rfl, (Seg.inR s3 q hq).1⟩
   ·obtain ⟨u, hu, hl⟩ := h4 q hq
    cases hBB : B with
    | nil => exact ⟨u, hu, hl⟩
    | cons b' B' =>
     rw [hBB] at s3
     refine ⟨b'.key, rfl, ?_⟩
     obtain ⟨x, hx⟩ := List.exists_mem_of_ne_nil _ (s3.ne (by simp))
     have hb := Seg.inR s3 x hx
     have h5 := hb.2 u hu
     -- b'.key <= x < u <= q
     exact lessB_le_trans hb.1 (lessB_asymm (lessB_of_lt_le h5 hl))⟩

/-- A branch's page, and its children. -/
theorem Zip.child (h : Zip M d all (k + 1) id lo hi ps off path) : ∃ L, M id = some ⟨3, 0, layC L⟩ ∧ rightC L = true ∧ (layC L).length ≤ 240 ∧ d ≤ L.length ∧ ∀ i x, L[i]? = some x → ∃ lo' hi' ps' off', Zip M d all k x.page lo' hi' ps' off' (path ++ [(L, i)]) ∧
  (i = 0 → off' = off) ∧ (i + 1 = L.length → off' + ps'.length = off + ps.length) ∧ ∀ key, inR lo hi key → i = findC key L → inR lo' hi' key := by
 obtain ⟨⟨ids, c, L, i2, h1, h2, h3, h4, h5, h6, h7⟩, _⟩ := h.tree
 refine ⟨headKey [] (c :: L), h1, h2, h3, by simpa [headKey] using h4, fun i x hx => ?_⟩
 obtain ⟨y, hy, hpg⟩ := headKey_pg _ _ _ _ hx
 have hil : i < (c :: L).length := (List.getElem?_eq_some_iff.1 hy).1
 have hF : c :: L = (c :: L).take i ++ y :: (c :: L).drop (i + 1) := by
  have e : (c :: L).drop i = y :: (c :: L).drop (i + 1) := by
   rw [List.drop_eq_getElem_cons hil]
   rw [List.getElem?_eq_getElem hil, Option.some.injEq] at hy
   rw [hy]
  rw [← e, List.take_append_drop]
 have hlen : ((c :: L).take i).length = i := by rw [List.length_take]; omega
 have hB0 : (c :: L).drop (i + 1) = L.drop i := by simp
 have hy0 : i = 0 → y = c := by rintro rfl; simpa using hy.symm
 have hyk : i ≠ 0 → L[i - 1]? = some y := by
  intro h0
  obtain ⟨j, rfl⟩ : ∃ j, i = j + 1 := ⟨i - 1, by omega⟩
  simpa using hy
 rw [← hpg]
 clear hpg hx hy
 generalize hA : (c :: L).take i = A at *
 generalize hB : (c :: L).drop (i + 1) = B at *
 have hs := h6
 rw [hF] at hs
 obtain ⟨p1, pr, j1, jr, rfl, rfl, s1, s2⟩ := Seg.append.1 hs
 obtain ⟨p2, p3, j2, j3, rfl, rfl, s3, s5⟩ := s2
 have hz := Zip.down h h5 hF s1 s3 s5 rfl
 rw [hlen] at hz
 refine ⟨_, _, _, _, hz, ?_, ?_, ?_⟩
 ·rintro rfl
  have : A = [] := List.eq_nil_of_length_eq_zero hlen
  subst this
  rw [s1.1]
  simp
 ·intro he
  have hBn : B = [] := by
   rw [← hB]
   exact List.drop_of_length_le (by simp [headKey] at he ⊢; omega)
  subst hBn
  rw [s5.1]
  simp only [List.length_append, List.append_nil]
  omega
 ·intro key hin hi0
  have hri : riseC [] L = true := (rightC_cons.1 h2).2.2
  have hfc : findC key (headKey [] (c :: L)) = Go.Ev.below key L := rfl
  rw [hfc] at hi0
  refine ⟨?_, ?_⟩
  ·by_cases h0 : i = 0
   ·rw [hy0 h0, h5]; exact hin.1
   ·obtain ⟨z, z1, z2⟩ := below_lt (k := key) (l := L) (i := i - 1) (by omega)
    rw [hyk h0] at z1
    cases z1
    exact z2
  ·intro u hu
   cases hBB : B with
   | nil => rw [hBB] at hu; exact hin.2 u hu
   | cons b B' =>
    rw [hBB] at hu hB0
    simp only [nextB, Option.some.injEq] at hu
    subst hu
    have hlt : i < L.length := by
     rcases Nat.lt_or_ge i L.length with h | h
     ·exact h
     ·rw [List.drop_of_length_le h] at hB0; cases hB0
    rw [List.drop_eq_getElem_cons hlt] at hB0
    have hb1 := (List.cons.inj hB0).1
    exact below_ge hri (by omega : Go.Ev.below key L ≤ i) (by rw [List.getElem?_eq_getElem hlt, hb1])

/-- Back to the branch above, and to the parts beside. -/
theorem Zip.beside {L : List Child} {i : Nat} (h : Zip M d all k id lo hi ps off (path ++ [(L, i)])) : i < L.length ∧ (∃ id' lo' hi' ps' off', Zip M d all (k + 1) id' lo' hi' ps' off' path ∧ (i + 1 = L.length → off' + ps'.length = off + ps.length) ∧ (i = 0 → off' = off)) ∧
  (∀ x, L[i + 1]? = some x → ∃ lo' hi' ps', Zip M d all k x.page lo' hi' ps' (off + ps.length) (path ++ [(L, i + 1)])) ∧
  (∀ x, L[i - 1]? = some x → 0 < i → ∃ lo' hi' ps' off', Zip M d all k x.page lo' hi' ps' off' (path ++ [(L, i - 1)]) ∧ off' + ps'.length = off) := by
 generalize hG : path ++ [(L, i)] = G at h
 cases h with
 | root h => simp at hG
 | @down k id lo hi ps0 p1 _ p3 off path' c y L0 A B i1 i2 i3 hz hr hF s1 s2 s3 hps =>
  obtain ⟨e1, e2⟩ := List.append_inj' hG rfl
  simp only [List.cons.injEq, Prod.mk.injEq, and_true] at e2
  obtain ⟨rfl, rfl⟩ := e2
  subst e1
  subst hps
  have hlen : (headKey [] (c :: L0)).length = A.length + (B.length + 1) := by
   rw [headKey_len, hF, List.length_append]; rfl
  refine ⟨by omega, ⟨_, _, _, _, _, hz, fun he => ?_, fun h0 => ?_⟩, fun x hx => ?_, fun x hx h0 => ?_⟩
  ·have : B = [] := List.eq_nil_of_length_eq_zero (by omega)
   subst this
   rw [s3.1]
   simp only [List.length_append, List.append_nil]
   omega
  ·have : A = [] := List.eq_nil_of_length_eq_zero h0
   subst this
   rw [s1.1]
   simp
  ·cases hBB : B with
   | nil => rw [hBB] at hlen; simp only [List.length_nil] at hlen; have := (List.getElem?_eq_some_iff.1 hx).1; omega
   | cons b B' =>
    subst hBB
    have hs3 := s3
    obtain ⟨q1, q2, j1, j2, rfl, rfl, t1, t2⟩ := hs3
    have hsA : Seg (Sub M d k) (A ++ [y]) (some b.key) (p1 ++ ps) (i1 ++ i2) := Seg.append.2 ⟨p1, ps, i1, i2, rfl, rfl, s1, ps, [], i2, [], by simp, by simp, s2, rfl, rfl⟩
    have hz' := Zip.down hz hr (by rw [hF]; simp : c :: L0 = (A ++ [y]) ++ b :: B') hsA t1 t2 (by simp)
    have e3 : (A ++ [y]).length = A.length + 1 := by simp
    have e4 : off + (p1 ++ ps).length = off + p1.length + ps.length := by simp; omega
    rw [e3, e4] at hz'
    have hg : x = b := by
     have : (c :: L0)[A.length + 1]? = some b := by rw [hF]; simp
     have e5 : (headKey [] (c :: L0))[A.length + 1]? = some b := by simpa [headKey] using this
     rw [e5] at hx
     exact (Option.some.inj hx).symm
    rw [hg]
    exact ⟨_, _, _, hz'⟩
  ·obtain ⟨A', a, hA⟩ : ∃ A' a, A = A' ++ [a] := by
    rcases List.eq_nil_or_concat A with h | ⟨l, b, h⟩
    ·rw [h] at h0; simp at h0
    ·exact ⟨l, b, by simpa using h⟩
   subst hA
   obtain ⟨q1, q2, j1, j2, rfl, rfl, t1, t2⟩ := Seg.append.1 s1
   obtain ⟨r1, r2, k1, k2, rfl, rfl, u1, rfl, rfl⟩ := t2
   simp only [nextB] at u1
   have hsB : Seg (Sub M d k) (y :: B) hi (ps ++ p3) (i2 ++ i3) := ⟨ps, p3, i2, i3, rfl, rfl, s2, s3⟩
   have hz' := Zip.down hz hr (by rw [hF]; simp : c :: L0 = A' ++ a :: (y :: B)) t1 u1 hsB (by simp)
   have e3 : (A' ++ [a]).length - 1 = A'.length := by simp
   have hg : x.page = a.page := by
    obtain ⟨y', hy', hpg⟩ := headKey_pg _ _ _ _ hx
    have : (c :: L0)[(A' ++ [a]).length - 1]? = some a := by rw [hF]; simp
    rw [this] at hy'
    rw [← hpg, Option.some.inj hy']
   rw [hg, e3]
   exact ⟨_, _, _, _, hz', by simp; omega⟩

/-- A leaf's page, and its items. -/
theorem Zip.leaf (h : Zip M d all 0 id lo hi ps off path) : ∃ items i2, M id = some ⟨2, 0, layI items⟩ ∧ riseI items = true ∧ (layI items).length ≤ 240 ∧ LeafAt M items ps i2 ∧ (path ≠ [] → items ≠ []) := by
 obtain ⟨⟨ids, items, i2, h1, h2, h3, h4, h5, h6⟩, hne⟩ := h.tree
 refine ⟨items, i2, h1, h2, h3, h4, fun hp e => hne hp ?_⟩
 subst e
 exact h4.1

theorem LeafAt.item {l : List Item} {ids : List Int} (h : LeafAt M l ps ids) : l.length = ps.length ∧ ∀ j (hl : j < l.length) (hp : j < ps.length), l[j].key = ps[j].1 ∧ ∃ ii, ValAt M l[j] ps[j].2 ii := by
 induction l generalizing ps ids with
 | nil => obtain ⟨rfl, rfl⟩ := h; exact ⟨rfl, fun j hl => by simp at hl⟩
 | cons x l ih =>
  obtain ⟨v, ps', i1, i2, rfl, rfl, h3, h4⟩ := h
  obtain ⟨q1, q2⟩ := ih h4
  refine ⟨by simp [q1], fun j hl hp => ?_⟩
  cases j with
  | zero => exact ⟨rfl, _, h3⟩
  | succ j => exact q2 j (by simpa using hl) (by simpa using hp)

theorem Zip.high (h : Zip M d all k id lo hi ps off path) : ∃ id' ids', TreeAt M d (k + path.length) id' [] none all ids' := by
 induction h with
 | root h => exact ⟨_, _, h⟩
 | down hz _ _ _ _ _ _ ih =>
  obtain ⟨id', ids', h⟩ := ih
  refine ⟨id', ids', ?_⟩
  have e : ∀ a b : Nat, a + (b + 1) = a + 1 + b := by omega
  rw [List.length_append, List.length_cons, List.length_nil, e]
  exact h

theorem Zip.low (h : Zip M d all k id lo hi ps off path) : k + path.length < 30 := by
 induction h with
 | root _ _ h => simpa using h
 | down hz _ _ _ _ _ _ ih =>
  rw [List.length_append, List.length_cons, List.length_nil]
  omega

theorem Zip.wide (h : Zip M d all k id lo hi ps off path) (hp : path = []) : k = 0 ∨ 2 ≤ (kidsAt M id).length := by
 cases h with
 | root _ h _ => exact h
 | down => simp at hp
end
end Go.Ev

set_option linter.unusedVariables false
set_option linter.unusedSimpArgs false
namespace Go.Ev
open Go.Proofs Go.RowKit

theorem devNew_any (most : Nat) (w : World) (h1 : 1 ≤ most) (h2 : most ≤ 3000) :
  Calls Tryz.prog 82 #[.int .i64 most] w fun e w' => e = .returned (.tuple #[ptrV w.heap.size, .int .i64 0]) ∧
   w.alloc (.cells #[.int .i64 most, .bool true, .bool false, .int .i64 0, .slice none 0 0, .slice none 0 0, .chan none] 134) = w' := by
 have g1 : ¬ (most : Int) < 1 := by omega
 have g2 : ¬ (3000 : Int) < (most : Int) := by omega
 go_enter Tryz.func82, Tryz.ntmps82
 go_wp2
 go_ret2
 exact ⟨rfl, rfl⟩

theorem DevAt.new (most : Nat) (w : World) (h2 : most ≤ 3000) :
  DevAt (w.alloc (.cells #[.int .i64 most, .bool true, .bool false, .int .i64 0, .slice none 0 0, .slice none 0 0, .chan none] 134)) w.heap.size most 0 (.slice none 0 0) (.slice none 0 0) :=
 ⟨Blk.new _ _ _, ⟨_, World.ownsRow_nil _ _ _ _⟩, ⟨_, World.ownsRow_nil _ _ _ _⟩, fun k h => (by cases h), ⟨by omega, by omega⟩⟩

theorem refNew_any (most : Nat) (w : World) (h1 : 1 ≤ most) (h2 : most ≤ 3000) :
  Calls Tryz.prog 83 #[.int .i64 most] w fun e w' => e = .returned (.tuple #[ptrV w.heap.size, .int .i64 0]) ∧ w.alloc (.cells (refDev most) 228) = w' := by
 have g1 : ¬ (most : Int) < 1 := by omega
 have g2 : ¬ (3000 : Int) < (most : Int) := by omega
 go_enter Tryz.func83, Tryz.ntmps83
 go_wp2
 go_ret2
 exact ⟨rfl, rfl⟩

theorem freePut_any (b : Nat) (w : World) :
  Calls Tryz.prog 80 #[ptrV b, .slice none 0 0] w fun e w' => e = .returned (.tuple #[]) ∧ w' = w := by
 go_enter Tryz.func80, Tryz.ntmps80
 go_wp2
 go_loopg [10] 0 (fun gk s10 wr => s10 = .int .i64 0 ∧ wr = w)
 case atStart => exact ⟨rfl, rfl⟩
 case round =>
  obtain ⟨rfl, rfl⟩ := hrel
  go_wp2_with (fail)
  refine bodyPost_end (results_none rfl _ _ _) rfl ?_
  exact ⟨rfl, rfl⟩

theorem freeNew_any (w : World) :
  Calls Tryz.prog 86 #[.slice none 0 0] w fun e w' => e = .returned (ptrV w.heap.size) ∧ w.alloc (.cells #[.slice none 0 0, .slice none 0 0, .map none] 143) = w' := by
 have hB : ∀ W : World, Calls Tryz.prog 57 #[ptrV w.heap.size, .slice none 0 0] W fun e w' => e = .returned (.tuple #[]) ∧ w' = W := by
  intro W
  go_enter Tryz.func57, Tryz.ntmps57
  go_wp2_with (fail)
  go_must (refine (freePut_any _ _).mono ?_)
  rintro e w1 ⟨rfl, rfl⟩
  go_wp2
  refine bodyPost_end (results_none rfl _ _ _) rfl ?_
  exact ⟨rfl, rfl⟩
 go_enter Tryz.func86, Tryz.ntmps86
 go_wp2_with (fail)
 go_must (refine (hB _).mono ?_)
 rintro e w1 ⟨rfl, rfl⟩
 go_wp2
 go_ret
 exact ⟨rfl, rfl⟩
end Go.Ev

set_option linter.unusedVariables false
set_option linter.unusedSimpArgs false
namespace Go.Ev
open Go.Proofs Go.RowKit

set_option maxRecDepth 100000 in
theorem cloneNil_any (w : World) : Calls Tryz.prog 130 #[.slice none 0 0] w fun e w' => e = .returned (.slice none 0 0) ∧ w = w' := by
 have q22 : ∀ (w : World) (a : Option Addr) (n c n' c' : Nat), (binOp .eql 36 (.slice a n c) (.slice none n' c')).run Tryz.prog w = .ok (.bool a.isNone) w := fun w a n c n' c' => Lib.run_eql_slice_nil w _ 3 a n c n' c' Tryz.underlying36
 go_enter Tryz.func130, Tryz.ntmps130
 go_wp2
 go_ret
 exact ⟨rfl, rfl⟩

theorem heapInit_nil (b : Nat) (w : World) (h : w.cell? ⟨b, 0, none⟩ = some (.slice none 0 0)) :
  Calls Tryz.prog 131 #[.iface 221 (.pointer (some ⟨b, 0, none⟩))] w fun e w' => e = .returned (.tuple #[]) ∧ w = w' := by
 have hm := m_len b _ w h
 go_enter Tryz.func131, Tryz.ntmps131
 go_wp2_with (fail)
 go_must (refine (lenN_any _ _ _ _).mono ?_)
 rintro e w2 ⟨rfl, rfl⟩
 go_wp2_with (fail)
 go_loopg [3] 0 (fun gk s3 wr => s3 = .int .i64 (-1) ∧ wr = w2)
 case atStart => exact ⟨rfl, rfl⟩
 case round =>
  obtain ⟨rfl, rfl⟩ := hrel
  go_wp2_with (fail)
  refine bodyPost_end (results_none rfl _ _ _) rfl ?_
  exact ⟨rfl, rfl⟩

theorem pileNew_any (w : World) :
  Calls Tryz.prog 74 #[.slice none 0 0] w fun e w' => e = .returned (ptrV w.heap.size) ∧ w.alloc (.cells #[.slice none 0 0] 140) = w' := by
 have hb : Blk (w.alloc (.cells #[.slice none 0 0] 140)) w.heap.size 140 #[.slice none 0 0] := Blk.new _ _ _
 have hI := Lib.hid (heapInit_nil w.heap.size _ (hb.cell 0))
 clear hb
 go_enter Tryz.func74, Tryz.ntmps74
 go_wp2_with (fail)
 go_must (refine (cloneNil_any _).mono ?_)
 rintro e w1 ⟨rfl, rfl⟩
 go_wp2_with (fail)
 go_must (refine hI.out.mono ?_)
 rintro e w2 ⟨rfl, rfl⟩
 go_wp2
 go_ret
 exact ⟨rfl, rfl⟩

/-- A pager without its maps and its pile. -/
def pg0 (d f : Nat) : Array Value := #[ptrV d, ptrV f, .int .i64 2, .int .i64 2, .int .i64 1, .map none, .map none, .map none, .pointer none]

def ClearP (p d f : Nat) (w : World) (e : Ending) (w' : World) : Prop :=
 e = .returned (.tuple #[]) ∧ ∃ mb db wb sb, Blk w' p 89 #[ptrV d, ptrV f, .int .i64 2, .int .i64 2, .int .i64 1, .map (some mb), .map (some db), .map (some wb), ptrV sb] ∧ MapI w' mb [] 0 ∧ MapI w' db [] 0 ∧ MapI w' wb [] 0 ∧ Pl w' sb (.slice none 0 0) [] ∧
  w.heap.size ≤ mb ∧ mb < db ∧ db < wb ∧ wb < sb ∧ Keeps (fun k => k = p) w w'

theorem MapI.newM (w : World) : MapI (w.alloc (.map #[] 0)) w.heap.size [] 0 := heap_alloc_new w _

theorem MapI.allocM {w : World} {b c : Nat} {l : List Ent} (h : MapI w b l c) (o : Obj) : MapI (w.alloc o) b l c := h.keeps (S := fun _ => False) (Keeps.of_below ((Below.refl _ w).alloc (Nat.le_refl _) o)) fun h => h
theorem MapI.setM {w : World} {b c : Nat} {l : List Ent} (h : MapI w b l c) {q : Addr} (hq : b ≠ q.block) (u : Value) : MapI (w.setCell q u) b l c := h.keeps (S := fun k => k = q.block) ((Keeps.refl (fun k => k = q.block) w).setCell (fun _ => rfl) u) hq

theorem pl_new (w : World) : Pl (w.alloc (.cells #[.slice none 0 0] 140)) w.heap.size (.slice none 0 0) [] := by
 have hb : Blk (w.alloc (.cells #[.slice none 0 0] 140)) w.heap.size 140 #[.slice none 0 0] := Blk.new _ _ _
 exact ⟨hb.cell 0, hb.frozen 0, hb.lt, World.ownsRow_nil _ _ _ _, by simp [Value.ownBlock]⟩

theorem clear_end {p d f : Nat} {w w1 w2 w3 w4 : World} (h : Blk w p 89 (pg0 d f)) (e1 : w.alloc (.map #[] 0) = w1) (e2 : w1.alloc (.map #[] 0) = w2) (e3 : w2.alloc (.map #[] 0) = w3) (e4 : w3.alloc (.cells #[.slice none 0 0] 140) = w4) :
  ClearP p d f w (.returned (.tuple #[])) ((((w4.setCell ⟨p, 5, none⟩ (.map (some w.heap.size))).setCell ⟨p, 6, none⟩ (.map (some w1.heap.size))).setCell ⟨p, 7, none⟩ (.map (some w2.heap.size))).setCell ⟨p, 8, none⟩ (ptrV w3.heap.size)) := by
 have hp := h.lt
 have z1 : w1.heap.size = w.heap.size + 1 := by subst e1; simp
 have z2 : w2.heap.size = w.heap.size + 2 := by subst e2; simp [z1]
 have z3 : w3.heap.size = w.heap.size + 3 := by subst e3; simp [z2]
 have hb : Blk w4 p 89 (pg0 d f) := by subst e4 e3 e2 e1; exact (((h.alloc _).alloc _).alloc _).alloc _
 have K : Keeps (fun k => k = p) w4 ((((w4.setCell ⟨p, 5, none⟩ (.map (some w.heap.size))).setCell ⟨p, 6, none⟩ (.map (some w1.heap.size))).setCell ⟨p, 7, none⟩ (.map (some w2.heap.size))).setCell ⟨p, 8, none⟩ (ptrV w3.heap.size)) :=
  ((((Keeps.refl (fun k => k = p) w4).setCell (p := ⟨p, 5, none⟩) (fun _ => rfl) _).setCell (p := ⟨p, 6, none⟩) (fun _ => rfl) _).setCell (p := ⟨p, 7, none⟩) (fun _ => rfl) _).setCell (p := ⟨p, 8, none⟩) (fun _ => rfl) _
 have K0 : Keeps (fun k => k = p) w w4 := by subst e4 e3 e2 e1; exact ((((Keeps.refl _ w).alloc _).alloc _).alloc _).alloc _
 have m1 : MapI w4 w.heap.size [] 0 := by subst e4 e3 e2 e1; exact (((MapI.newM w).allocM _).allocM _).allocM _
 have m2 : MapI w4 w1.heap.size [] 0 := by subst e4 e3 e2; exact ((MapI.newM w1).allocM _).allocM _
 have m3 : MapI w4 w2.heap.size [] 0 := by subst e4 e3; exact (MapI.newM w2).allocM _
 have m4 : Pl w4 w3.heap.size (.slice none 0 0) [] := by subst e4; exact pl_new w3
 refine ⟨rfl, w.heap.size, w1.heap.size, w2.heap.size, w3.heap.size, ?_, m1.keeps K (by omega), m2.keeps K (by omega), m3.keeps K (by omega), m4.keeps K (by omega) (fun k e => by cases e), by omega, by omega, by omega, by omega, K0.trans K fun _ _ e => e⟩
 exact (((hb.set 5 _).set 6 _).set 7 _).set 8 _

set_option maxHeartbeats 1000000 in
theorem clear_any (p d f : Nat) (w : World) (h : Blk w p 89 (pg0 d f)) : Calls Tryz.prog 59 #[ptrV p] w (ClearP p d f w) := by
 have hp := h.lt
 obtain ⟨w1, e1⟩ : ∃ w1, w.alloc (.map #[] 0) = w1 := ⟨_, rfl⟩
 obtain ⟨w2, e2⟩ : ∃ w2, w1.alloc (.map #[] 0) = w2 := ⟨_, rfl⟩
 obtain ⟨w3, e3⟩ : ∃ w3, w2.alloc (.map #[] 0) = w3 := ⟨_, rfl⟩
 obtain ⟨w4, e4⟩ : ∃ w4, w3.alloc (.cells #[.slice none 0 0] 140) = w4 := ⟨_, rfl⟩
 have hb : Blk w4 p 89 (pg0 d f) := by subst e4 e3 e2 e1; exact (((h.alloc _).alloc _).alloc _).alloc _
 have HE := Lib.hid (clear_end h e1 e2 e3 e4)
 have f5 := hb.frozen 5
 have f6 := hb.frozen 6
 have f7 := hb.frozen 7
 have f8 := hb.frozen 8
 have c5 : w4.cell? ⟨p, 5, none⟩ = some (.map none) := hb.cell 5
 have c6 : w4.cell? ⟨p, 6, none⟩ = some (.map none) := hb.cell 6
 have c7 : w4.cell? ⟨p, 7, none⟩ = some (.map none) := hb.cell 7
 have c8 : w4.cell? ⟨p, 8, none⟩ = some (.pointer none) := hb.cell 8
 have hN := Lib.hid (pileNew_any w3)
 rw [e4] at hN
 subst e1 e2 e3
 clear e4 hb h
 have hMM : ∀ (t : TypeId) (W : World), (Instr.makeMap t none).run Tryz.prog W = .ok (.map (some W.heap.size)) (W.alloc (.map #[] 0)) := fun t W => run_makeMap t W
 go_enter Tryz.func59, Tryz.ntmps59
 go_wp2_with (fail)
 go_must (refine hN.out.mono ?_)
 rintro e w5 ⟨rfl, rfl⟩
 go_wp2_with (fail)
 go_end0
 have hE := HE.out
 simp only [World.size_alloc] at hE
 exact hE

set_option maxRecDepth 100000 in
theorem listNil_any (f : Nat) (w : World) (h : w.cell? ⟨f, 0, none⟩ = some (.slice none 0 0)) :
  Calls Tryz.prog 58 #[ptrV f] w fun e w' => e = .returned (.slice none 0 0) ∧ Below w.heap.size w w' := by
 go_enter Tryz.func58, Tryz.ntmps58
 have hV : Calls Tryz.prog 123 #[.slice none 0 0] w fun e w' => e = .returned (.func (.func 169) #[] #[.pointer (some ⟨w.heap.size, 0, none⟩)]) ∧ w.alloc (.cells #[.slice none 0 0] 138) = w' := by
  go_enter Tryz.func123, Tryz.ntmps123
  go_wp2
  go_ret
  exact ⟨rfl, rfl⟩
 go_wp2_with (fail)
 go_must (refine hV.mono ?_)
 rintro e w1 ⟨rfl, rfl⟩
 go_wp2_with (fail)
 go_must (refine (sorted_nil (Blk.new _ _ _)).mono ?_)
 rintro e w2 ⟨rfl, hk⟩
 go_wp2_with (fail)
 go_ret
 refine ⟨rfl, ((Below.refl _ w).alloc (Nat.le_refl _) _).trans (hk.below (by simp) fun i hi e => by omega)⟩

set_option maxRecDepth 100000 in
set_option maxHeartbeats 2000000 in
theorem freeAll_any (f : Nat) (w : World) (h : Blk w f 143 #[.slice none 0 0, .slice none 0 0, .map none]) :
  Calls Tryz.prog 67 #[ptrV f] w fun e w' => e = .returned (.slice none 0 0) ∧ Below w.heap.size w w' := by
 have hL := Lib.hid (listNil_any f w (h.cell 0))
 have hlt := h.lt
 have g1 : w.cell? ⟨f, 1, none⟩ = some (.slice none 0 0) := h.cell 1
 clear h
 go_enter Tryz.func67, Tryz.ntmps67
 go_wp2_with (fail)
 go_must (refine hL.out.mono ?_)
 rintro e w1 ⟨rfl, hb⟩
 have g1' : w1.cell? ⟨f, 1, none⟩ = some (.slice none 0 0) := (hb.cell (p := ⟨f, 1, none⟩) hlt).trans g1
 go_wp2_with (fail)
 go_loopg [3, 17] 0 (fun gk s3 s17 wr => s3 = .slice none 0 0 ∧ s17 = .int .i64 0 ∧ wr = w1)
 case atStart => exact ⟨rfl, rfl, rfl⟩
 case round =>
  obtain ⟨rfl, rfl, rfl⟩ := hrel
  go_wp2_with (fail)
  go_must (refine (sort_nil _).mono ?_)
  rintro e w2 ⟨rfl, hb2⟩
  go_wp2_with (fail)
  go_ret
  exact ⟨rfl, hb.trans (hb2.mono hb.size)⟩

set_option maxRecDepth 100000 in
theorem indexNil_any (F : Value) (w : World) : Calls Tryz.prog 129 #[.slice none 0 0, F] w fun e w' => e = .returned (.int .i64 (-1)) ∧ w = w' := by
 go_enter Tryz.func129, Tryz.ntmps129
 go_wp2_with (fail)
 go_loopg [8] 0 (fun gk s8 wr => s8 = .int .i64 0 ∧ wr = w)
 case atStart => exact ⟨rfl, rfl⟩
 case round =>
  obtain ⟨rfl, rfl⟩ := hrel
  go_wp2_with (fail)
  go_ret
  exact ⟨rfl, rfl⟩

set_option maxRecDepth 100000 in
theorem containsNil_any (F : Value) (w : World) : Calls Tryz.prog 66 #[.slice none 0 0, F] w fun e w' => e = .returned (.bool false) ∧ w = w' := by
 go_enter Tryz.func66, Tryz.ntmps66
 go_wp2_with (fail)
 go_must (refine (indexNil_any _ _).mono ?_)
 rintro e w1 ⟨rfl, rfl⟩
 go_wp2
 go_ret
 exact ⟨rfl, rfl⟩
end Go.Ev

set_option linter.unusedVariables false
set_option linter.unusedSimpArgs false
namespace Go.Ev
open Go.Proofs Go.RowKit

theorem pgInv_new : PgInv 2 [] [] [] := by
 refine ⟨List.nodup_nil, List.nodup_nil, List.nodup_nil, fun k => Iff.rfl, fun k => ⟨fun h => by omega, fun h => by rcases h with h | h <;> cases h⟩, (fun k h => by cases h), (fun k v h => by cases h), Nat.le_refl _, (fun k v h => by cases h)⟩

theorem pages_new : Pages [] (fun _ => none) := fun _ => rfl

theorem pgOk_new {m : Nat} (hm : 4 ≤ m ∧ m ≤ 3000) {w : World} {p d f mb db wb sb B : Nat} {sy nw : Value} (h : Blk w p 89 #[ptrV d, ptrV f, .int .i64 2, .int .i64 2, .int .i64 1, .map (some mb), .map (some db), .map (some wb), ptrV sb])
  (hf : Blk w f 143 #[.slice none 0 0, .slice none 0 0, .map none]) (hd : DevAt w d m 2 sy nw) (m1 : MapI w mb [] 0) (m2 : MapI w db [] 0) (m3 : MapI w wb [] 0) (hs : Pl w sb (.slice none 0 0) [])
  (hdB : d < B) (hfB : f < B) (hsy : ∀ k, sy.ownBlock = some k → k < B) (hnw : ∀ k, nw.ownBlock = some k → k < B) (hp : B ≤ p) (h1 : p < mb) (h2 : mb < db) (h3 : db < wb) (h4 : wb < sb) :
  PgOk w p ⟨d, f, mb, db, wb, sb, .slice none 0 0, sy, nw⟩ m (fun _ => none) 0 := by
 have hdf : d ≠ f := by
  rintro rfl
  have := (hd.blk.eq hf).1
  revert this
  decide
 have hsyd : ∀ k, sy.ownBlock = some k → k ≠ d ∧ k ≠ f := fun k e => by
  obtain ⟨cs, hr⟩ := hd.srow
  exact ⟨own_ne hr hd.blk (by decide) k e, own_ne hr hf (by decide) k e⟩
 have hnwd : ∀ k, nw.ownBlock = some k → k ≠ d ∧ k ≠ f := fun k e => by
  obtain ⟨cs, hr⟩ := hd.nrow
  exact ⟨own_ne hr hd.blk (by decide) k e, own_ne hr hf (by decide) k e⟩
 refine ⟨2, [], [], 0, 0, 0, [], ⟨h, hf, hd, m1, m2, m3, hs, ?_, ?_, ?_, ?_, ⟨Nat.le_refl _, by omega⟩, Clk.nil _⟩, pgInv_new, pages_new, rfl⟩
 ·simp only [Pc.ids, List.nodup_cons, List.mem_cons, List.not_mem_nil, or_false, not_or, List.nodup_nil, not_false_eq_true, and_true]
  refine ⟨⟨?_, ?_, ?_, ?_, ?_, ?_⟩, ⟨hdf, ?_, ?_, ?_, ?_⟩, ⟨?_, ?_, ?_, ?_⟩, ⟨?_, ?_, ?_⟩, ⟨?_, ?_⟩, ?_⟩ <;> omega
 ·intro k e; cases e
 ·intro k e hm
  have a := hsyd k e
  have b := hsy k e
  simp only [Pc.ids, List.mem_cons, List.not_mem_nil, or_false] at hm
  rcases hm with hm | hm | hm | hm | hm | hm | hm <;> omega
 ·intro k e hm
  have a := hnwd k e
  have b := hnw k e
  simp only [Pc.ids, List.mem_cons, List.not_mem_nil, or_false] at hm
  rcases hm with hm | hm | hm | hm | hm | hm | hm <;> omega

def PNewP (m d f : Nat) (sy nw : Value) (w : World) (e : Ending) (w' : World) : Prop :=
 ∃ p c, e = .returned (.tuple #[ptrV p, .int .i64 0]) ∧ PgOk w' p c m (fun _ => none) 0 ∧ (∀ k, c.S p k → k = d ∨ k = f ∨ sy.ownBlock = some k ∨ nw.ownBlock = some k ∨ w.heap.size ≤ k) ∧ Below w.heap.size w w'

theorem pnew_end {m : Nat} (hm : 4 ≤ m ∧ m ≤ 3000) {d f p : Nat} {sy nw : Value} {w w1 w2 w3 : World} (hd : DevAt w d m 2 sy nw) (hf : Blk w f 143 #[.slice none 0 0, .slice none 0 0, .map none]) (h1 : Below w.heap.size w w1) (hp : p = w1.heap.size) (e2 : w1.alloc (.cells (pg0 d f) 89) = w2) {e : Ending} (hc : ClearP p d f w2 e w3) :
  PNewP m d f sy nw w (.returned (.tuple #[ptrV p, .int .i64 0])) w3 := by
 have hb2 : Below w.heap.size w w2 := by subst e2; exact h1.alloc h1.size _
 have z2 : w2.heap.size = w1.heap.size + 1 := by subst e2; simp
 have hz := h1.size
 obtain ⟨_, mb, db, wb, sb, k1, k2, k3, k4, k5, k6, k7, k8, k9, kK⟩ := hc
 have hb3 : Below w.heap.size w w3 := hb2.trans (kK.below (by omega) (fun i hi e => by omega))
 have hd3 : DevAt w3 d m 2 sy nw := hd.keeps (S := fun _ => False) (Keeps.of_below hb3) fun _ _ h => h
 have hf3 := hf.below' hb3
 refine ⟨p, _, rfl, pgOk_new hm (B := w.heap.size) k1 hf3 hd3 k2 k3 k4 k5 hd.blk.lt hf.lt ?_ ?_ (by omega) (by omega) k7 k8 k9, ?_, hb3⟩
 ·intro k e; obtain ⟨cs, hr⟩ := hd.srow; exact (hr.lt k e).2
 ·intro k e; obtain ⟨cs, hr⟩ := hd.nrow; exact (hr.lt k e).2
 ·rintro k (hk | hk | hk | hk)
  ·simp only [Pc.ids, List.mem_cons, List.not_mem_nil, or_false] at hk
   rcases hk with hk | hk | hk | hk | hk | hk | hk
   ·right; right; right; right; omega
   ·left; omega
   ·right; left; omega
   ·right; right; right; right; omega
   ·right; right; right; right; omega
   ·right; right; right; right; omega
   ·right; right; right; right; omega
  ·cases hk
  ·exact .inr (.inr (.inl hk))
  ·exact .inr (.inr (.inr (.inl hk)))

set_option maxHeartbeats 2000000 in
set_option maxRecDepth 100000 in
theorem pagerNew_any {m : Nat} (hm : 4 ≤ m ∧ m ≤ 3000) (d f : Nat) (sy nw : Value) (w : World) (hd : DevAt w d m 2 sy nw) (hf : Blk w f 143 #[.slice none 0 0, .slice none 0 0, .map none]) :
  Calls Tryz.prog 24 #[ptrV d, ptrV f, .int .i64 2, .int .i64 1] w (PNewP m d f sy nw w) := by
 have hb0 : Below w.heap.size w (w.alloc (.cells #[.int .i64 2] 3)).drew := ((Below.refl _ w).alloc (Nat.le_refl _) _).drew
 have bx : Blk (w.alloc (.cells #[.int .i64 2] 3)).drew w.heap.size 3 #[.int .i64 2] := (Blk.new _ _ _).drew
 have x0 : (w.alloc (.cells #[.int .i64 2] 3)).drew.cell? ⟨w.heap.size, 0, none⟩ = some (.int .i64 2) := bx.cell 0
 have hL := Lib.hid (devLen_any d m 2 sy nw _ (hd.keeps (S := fun _ => False) (Keeps.of_below hb0) fun _ _ h => h))
 have hA := Lib.hid (freeAll_any f _ (hf.below' hb0))
 have hE := Lib.hid (fun (w1 w2 w3 : World) (p : Nat) (h1 : Below w.heap.size w w1) (hp : p = w1.heap.size) e2 e hc => pnew_end hm (w1 := w1) (w2 := w2) (w3 := w3) (e := e) hd hf h1 hp e2 hc)
 have hzz : (w.alloc (.cells #[.int .i64 2] 3)).drew.heap.size = w.heap.size + 1 := by simp
 have HB := Lib.hid hb0
 have HBX := Lib.hid bx
 have X0 := Lib.hid x0
 clear hd hf hb0 bx x0
 go_enter Tryz.func24, Tryz.ntmps24
 go_wp2_with (fail)
 have x0 := X0.out
 refine wp_region_any (by kernel_rfl) ?_
 change wpAny _ _ _ _ _ _ _ (World.drew _)
 try simp only [Act.put, lT, l0, lS]
 refine tA 0 ?_; try simp only [Act.put, lT, l0, lS]
 refine tA 1 ?_; try simp only [Act.put, lT, l0, lS]
 refine tA 2 ?_; try simp only [Act.put, lT, l0, lS]
 refine tA 3 ?_; try simp only [Act.put, lT, l0, lS]
 refine tA 4 ?_; try simp only [Act.put, lT, l0, lS]
 refine tA 5 ?_; try simp only [Act.put, lT, l0, lS]
 refine tA 6 ?_; try simp only [Act.put, lT, l0, lS]
 refine rd 7 (by kernel_rfl) rfl (fun K hK => ?_); go_simp; refine hK _ _ ?_; clear hK K
 try simp only [Act.put, lT, l0, lS]
 refine tA 8 ?_; try simp only [Act.put, lT, l0, lS]
 refine tA 9 ?_; try simp only [Act.put, lT, l0, lS]
 refine tA 10 ?_; try simp only [Act.put, lT, l0, lS]
 refine tA 12 ?_; try simp only [Act.put, lT, l0, lS]
 refine wpAny_ready (rs := [11, 13]) (by kernel_rfl) (by simp) (AllReady.cons (o := { dst := _, op := _, type := _, pos := _, after := _, guard := _ }) rfl (fun K hK => ?_) (AllReady.cons (o := { dst := _, op := _, type := _, pos := _, after := _, guard := _ }) rfl (fun K hK => ?_) AllReady.nil))
 ·go_simp
  refine hK _ _ ?_
  clear hK K
  refine rd 13 (by kernel_rfl) rfl (fun K hK => ?_); go_simp
  (go_must (refine hL.out.mono ?_); rintro e w2 ⟨rfl, rfl⟩)
  go_simp
  refine hK _ _ ?_
  clear hK K
  try simp only [Act.put, lT, l0, lS]
  refine tA 14 ?_; try simp only [Act.put, lT, l0, lS]
  refine tA 15 ?_; try simp only [Act.put, lT, l0, lS]
  refine tA 16 ?_; try simp only [Act.put, lT, l0, lS]
  refine tA 17 ?_; try simp only [Act.put, lT, l0, lS]
  refine tA 18 ?_; try simp only [Act.put, lT, l0, lS]
  refine tA 19 ?_; try simp only [Act.put, lT, l0, lS]
  refine wpAny_done (by kernel_rfl) ?_ _
  go_wp2_with (fail)
  go_must (refine hA.out.mono ?_)
  rintro e w3 ⟨rfl, hb3⟩
  have x3 : w3.cell? ⟨w.heap.size, 0, none⟩ = some (.int .i64 2) := (HBX.out.below' hb3).cell 0
  have hz3 := hb3.size
  go_wp2_with (fail)
  go_must (refine (containsNil_any _ _).mono ?_)
  rintro e w4 ⟨rfl, rfl⟩
  go_wp2_with (fail)
  go_must (refine (clear_any w3.heap.size d f _ (Blk.new _ _ _)).mono ?_)
  intro e w5 hc
  have HC := Lib.hid hc
  obtain ⟨rfl, _⟩ := hc
  go_wp2_with (fail)
  go_ret2
  exact hE.out w3 _ w5 w3.heap.size (HB.out.trans (hb3.mono (by simp))) rfl rfl _ HC.out
 ·go_simp
  (go_must (refine hL.out.mono ?_); rintro e w2 ⟨rfl, rfl⟩)
  go_simp
  refine hK _ _ ?_
  clear hK K
  refine rd 11 (by kernel_rfl) rfl (fun K hK => ?_); go_simp; refine hK _ _ ?_; clear hK K
  try simp only [Act.put, lT, l0, lS]
  refine tA 14 ?_; try simp only [Act.put, lT, l0, lS]
  refine tA 15 ?_; try simp only [Act.put, lT, l0, lS]
  refine tA 16 ?_; try simp only [Act.put, lT, l0, lS]
  refine tA 17 ?_; try simp only [Act.put, lT, l0, lS]
  refine tA 18 ?_; try simp only [Act.put, lT, l0, lS]
  refine tA 19 ?_; try simp only [Act.put, lT, l0, lS]
  refine wpAny_done (by kernel_rfl) ?_ _
  go_wp2_with (fail)
  go_must (refine hA.out.mono ?_)
  rintro e w3 ⟨rfl, hb3⟩
  have x3 : w3.cell? ⟨w.heap.size, 0, none⟩ = some (.int .i64 2) := (HBX.out.below' hb3).cell 0
  have hz3 := hb3.size
  go_wp2_with (fail)
  go_must (refine (containsNil_any _ _).mono ?_)
  rintro e w4 ⟨rfl, rfl⟩
  go_wp2_with (fail)
  go_must (refine (clear_any w3.heap.size d f _ (Blk.new _ _ _)).mono ?_)
  intro e w5 hc
  have HC := Lib.hid hc
  obtain ⟨rfl, _⟩ := hc
  go_wp2_with (fail)
  go_ret2
  exact hE.out w3 _ w5 w3.heap.size (HB.out.trans (hb3.mono (by simp))) rfl rfl _ HC.out

def BaseP (m : Nat) (w : World) (e : Ending) (w' : World) : Prop :=
 ∃ d g f h sy nw, e = .returned (.tuple #[ptrV d, ptrV g, ptrV f, ptrV h, .bool true]) ∧ DevAt w' d m 2 sy nw ∧ Blk w' f 143 #[.slice none 0 0, .slice none 0 0, .map none] ∧ w.heap.size ≤ d ∧ w.heap.size ≤ f ∧ (∀ k, sy.ownBlock = some k → w.heap.size ≤ k) ∧ (∀ k, nw.ownBlock = some k → w.heap.size ≤ k) ∧ Below w.heap.size w w'

theorem devNew3 {m : Nat} (hm : 4 ≤ m ∧ m ≤ 3000) (w : World) : Calls Tryz.prog 82 #[.int .i64 (m : Int)] w fun e w' => e = .returned (.tuple #[ptrV w.heap.size, .int .i64 0]) ∧ DevAt w' w.heap.size m 0 (.slice none 0 0) (.slice none 0 0) ∧ Below w.heap.size w w' ∧ w'.heap.size = w.heap.size + 1 :=
 (devNew_any m w (by omega) hm.2).mono fun e w' ⟨h1, h2⟩ => ⟨h1, h2 ▸ DevAt.new m w hm.2, h2 ▸ (Below.refl _ w).alloc (Nat.le_refl _) _, by rw [← h2]; simp⟩

theorem refNew3 {m : Nat} (hm : 4 ≤ m ∧ m ≤ 3000) (w : World) : Calls Tryz.prog 83 #[.int .i64 (m : Int)] w fun e w' => e = .returned (.tuple #[ptrV w.heap.size, .int .i64 0]) ∧ Blk w' w.heap.size 228 (refDev m) ∧ Below w.heap.size w w' ∧ w'.heap.size = w.heap.size + 1 :=
 (refNew_any m w (by omega) hm.2).mono fun e w' ⟨h1, h2⟩ => ⟨h1, h2 ▸ Blk.new _ _ _, h2 ▸ (Below.refl _ w).alloc (Nat.le_refl _) _, by rw [← h2]; simp⟩

theorem freeNew3 (w : World) : Calls Tryz.prog 86 #[.slice none 0 0] w fun e w' => e = .returned (ptrV w.heap.size) ∧ Blk w' w.heap.size 143 #[.slice none 0 0, .slice none 0 0, .map none] ∧ Below w.heap.size w w' ∧ w'.heap.size = w.heap.size + 1 :=
 (freeNew_any w).mono fun e w' ⟨h1, h2⟩ => ⟨h1, h2 ▸ Blk.new _ _ _, h2 ▸ (Below.refl _ w).alloc (Nat.le_refl _) _, by rw [← h2]; simp⟩

/-- What the parts of Base come to. -/
theorem base_end {m : Nat} {w w1 w2 w3 w4 w5 w6 : World} {sy nw : Value} {T : TypeId} {V : Array Value} (a1 : DevAt w1 w.heap.size m 0 (.slice none 0 0) (.slice none 0 0)) (b1 : Below w.heap.size w w1) (z1 : w1.heap.size = w.heap.size + 1)
  (b2 : Below w1.heap.size w1 w2) (z2 : w2.heap.size = w1.heap.size + 1) (a2 : Blk w2 w1.heap.size 228 (refDev m))
  (a3 : DevAt w3 w.heap.size m 2 sy nw) (k3 : GrowK w.heap.size (.slice none 0 0) (.slice none 0 0) sy nw w2 w3) (k4 : Keeps (fun k => k = w1.heap.size) w3 w4) (a5 : Blk w5 w4.heap.size 143 #[.slice none 0 0, .slice none 0 0, .map none])
  (b5 : Below w4.heap.size w4 w5) (b6 : Below w5.heap.size w5 w6) :
  BaseP m w (.returned (.tuple #[ptrV w.heap.size, ptrV w1.heap.size, ptrV w4.heap.size, ptrV w6.heap.size, .bool true])) (w6.alloc (.cells V T)) := by
 have hz3 := k3.keeps.size
 have hz4 := k4.size
 have hz5 := b5.size
 have hz6 := b6.size
 have c2 : Below w.heap.size w w2 := b1.trans (b2.mono (by omega))
 have c3 : Below w.heap.size w w3 := c2.trans (k3.keeps.below (by omega) (fun i hi e => by
  rcases e with e | e | e
  ·omega
  ·cases e
  ·cases e))
 have c4 : Below w.heap.size w w4 := c3.trans (k4.below (by omega) (fun i hi e => by omega))
 have c5 : Below w.heap.size w w5 := c4.trans (b5.mono (by omega))
 have c6 : Below w.heap.size w w6 := c5.trans (b6.mono (by omega))
 have c7 : Below w.heap.size w (w6.alloc (.cells V T)) := c6.alloc (by omega) _
 have a2' : Blk w3 w1.heap.size 228 (refDev m) := a2.keeps k3.keeps (fun e => by
  rcases e with e | e | e
  ·omega
  ·cases e
  ·cases e)
 have a4 : DevAt w4 w.heap.size m 2 sy nw := a3.keeps k4 (fun k hk e => by
  subst e
  rcases hk with e | e | e
  ·omega
  ·obtain ⟨cs, hr⟩ := a3.srow
   exact own_ne hr a2' (by decide) _ e rfl
  ·obtain ⟨cs, hr⟩ := a3.nrow
   exact own_ne hr a2' (by decide) _ e rfl)
 have b46 : Below w4.heap.size w4 (w6.alloc (.cells V T)) := (b5.trans (b6.mono (by omega))).alloc (by omega) _
 have a6 : DevAt (w6.alloc (.cells V T)) w.heap.size m 2 sy nw := a4.keeps (S := fun _ => False) (Keeps.of_below b46) fun _ _ h => h
 refine ⟨w.heap.size, w1.heap.size, w4.heap.size, w6.heap.size, sy, nw, rfl, a6, (a5.below' b6).alloc _, Nat.le_refl _, by omega, fun k e => ?_, fun k e => ?_, c7⟩
 ·rcases k3.sy k e with h | h
  ·cases h
  ·omega
 ·rcases k3.nw k e with h | h
  ·cases h
  ·omega

set_option maxHeartbeats 2000000 in
set_option maxRecDepth 100000 in
theorem base_any {m : Nat} (hm : 4 ≤ m ∧ m ≤ 3000) (w : World) : Calls Tryz.prog 34 #[.int .i64 (m : Int), .int .i64 2, .slice none 0 0] w (BaseP m w) := by
 go_enter Tryz.func34, Tryz.ntmps34
 go_wp2_with (fail)
 go_must (refine (devNew3 hm w).mono ?_)
 rintro e w1 ⟨rfl, a1, b1, z1⟩
 have A1 := Lib.hid a1
 have B1 := Lib.hid b1
 have Z1 := Lib.hid z1
 clear a1 b1 z1
 go_wp2_with (fail)
 go_must (refine (refNew3 hm w1).mono ?_)
 rintro e w2 ⟨rfl, a2, b2, z2⟩
 have a1' : DevAt w2 w.heap.size m 0 (.slice none 0 0) (.slice none 0 0) := A1.out.keeps (S := fun _ => False) (Keeps.of_below b2) fun _ _ h => h
 have A2 := Lib.hid a2
 have B2 := Lib.hid b2
 have Z2 := Lib.hid z2
 have hG := Lib.hid (devTo_any w.heap.size m 0 2 _ _ w2 a1' (by omega) (by omega))
 clear a2 b2 z2 a1'
 go_wp2_with (fail)
 go_must (refine hG.out.mono ?_)
 rintro e w3 ⟨rfl, sy, nw, a3, k3⟩
 have hR := Lib.hid (refGrow_any hm (A2.out.keeps k3.keeps (fun e => by
  have := Z1.out
  rcases e with e | e | e
  ·omega
  ·cases e
  ·cases e)))
 have A3 := Lib.hid a3
 have K3 := Lib.hid k3
 clear a3 k3 hG
 go_wp2_with (fail)
 go_must (refine hR.out.mono ?_)
 rintro e w4 ⟨rfl, k4⟩
 have K4 := Lib.hid k4
 clear k4 hR
 go_wp2_with (fail)
 go_must (refine (freeNew3 w4).mono ?_)
 rintro e w5 ⟨rfl, a5, b5, z5⟩
 have A5 := Lib.hid a5
 have B5 := Lib.hid b5
 clear a5 b5 z5
 go_wp2_with (fail)
 go_must (refine (refSorted_nil w5).mono ?_)
 rintro e w6 ⟨rfl, b6⟩
 have B6 := Lib.hid b6
 clear b6
 go_wp2_with (fail)
 refine bodyPost_ret (v := .tuple #[ptrV w.heap.size, ptrV w1.heap.size, ptrV w4.heap.size, ptrV w6.heap.size, .bool true]) (by simp [results, Tryz.results34, go_sem]) rfl ?_
 exact base_end A1.out B1.out Z1.out B2.out Z2.out A2.out A3.out K3.out K4.out A5.out B5.out B6.out

def TNewP (m p : Nat) (c : Pc) (w : World) (e : Ending) (w' : World) : Prop :=
 ∃ root c', e = .returned (.tuple #[.int .i64 root, .int .i64 0]) ∧ PgOk w' p c' m (updS (fun _ => none) root (some ⟨2, 0, []⟩)) 1 ∧ PgK p c c' w w'

theorem treeNew_any {m : Nat} (hm : 4 ≤ m ∧ m ≤ 3000) (p : Nat) (c : Pc) (w : World) (h : PgOk w p c m (fun _ => none) 0) : Calls Tryz.prog 35 #[ptrV p] w (TNewP m p c w) := by
 have hM := Lib.hid (make_any ⟨2, 0, []⟩ w h (by simp [Pg.ok]) (by omega))
 clear h
 go_enter Tryz.func35, Tryz.ntmps35
 go_wp2_with (fail)
 go_must (refine hM.out.mono ?_)
 rintro e w1 ⟨root, c', rfl, _, _, _, hp, hk⟩
 have HP := Lib.hid hp
 have HK := Lib.hid hk
 clear hp hk
 go_wp2_with (fail)
 go_ret2
 exact ⟨root, c', rfl, HP.out, HK.out⟩

def BeginM (m : Nat) (w : World) (e : Ending) (w' : World) : Prop :=
 ∃ d f p c root, e = .returned (.tuple #[ptrV d, ptrV f, ptrV p, .int .i64 root, .bool true]) ∧ PgOk w' p c m (updS (fun _ => none) root (some ⟨2, 0, []⟩)) 1 ∧ (∀ k, c.S p k → w.heap.size ≤ k) ∧ Below w.heap.size w w'

set_option maxHeartbeats 2000000 in
theorem begin_m {m : Nat} (hm : 4 ≤ m ∧ m ≤ 3000) (w : World) : Calls Tryz.prog 10 #[.int .i64 (m : Int)] w (BeginM m w) := by
 go_enter Tryz.func10, Tryz.ntmps10
 go_wp2_with (fail)
 go_must (refine (base_any hm w).mono ?_)
 rintro e w1 ⟨d, g, f, h, sy, nw, rfl, hd, hf, d1, d2, d3, d4, b1⟩
 have hN := Lib.hid (pagerNew_any hm d f sy nw w1 hd hf)
 have B1 := Lib.hid b1
 clear hd hf b1
 go_wp2_with (fail)
 go_must (refine hN.out.mono ?_)
 rintro e w2 ⟨p, c, rfl, hp, hs, b2⟩
 have hT := Lib.hid (treeNew_any hm p c w2 hp)
 have hz1 := B1.out.size
 have HS := Lib.hid (show ∀ k, c.S p k → w.heap.size ≤ k from fun k hk => by
  rcases hs k hk with h | h | h | h | h
  ·omega
  ·omega
  ·exact d3 k h
  ·exact d4 k h
  ·omega)
 have B2 := Lib.hid b2
 clear hp hs b2 hN
 go_wp2_with (fail)
 go_must (refine hT.out.mono ?_)
 rintro e w3 ⟨root, c', rfl, hp, hk⟩
 have HP := Lib.hid hp
 have HK := Lib.hid hk
 clear hp hk hT
 go_wp2_with (fail)
 refine bodyPost_ret (v := .tuple #[ptrV d, ptrV f, ptrV p, .int .i64 root, .bool true]) (by simp [results, Tryz.results10, go_sem]) rfl ?_
 have hz2 := B2.out.size
 refine ⟨d, f, p, c', root, rfl, HP.out, fun k hk => ?_, ?_⟩
 ·rcases HK.out.sub k hk with h | h
  ·exact HS.out k h
  ·omega
 ·exact (B1.out.trans (B2.out.mono hz1)).trans (HK.out.keeps.below (by omega) fun i hi e => by have := HS.out i e; omega)

abbrev BeginP (w : World) (e : Ending) (w' : World) : Prop := BeginM 3000 w e w'
theorem begin_any (w : World) : Calls Tryz.prog 10 #[.int .i64 3000] w (BeginP w) := begin_m (m := 3000) (by omega) w
end Go.Ev
