/-
  A tree has a way down for every key. A tree that has been deleted from has a way down for every key, too. tree.walk.see: pages that are met the first time. A device, free pages and a pager are made anew. A pager of a first transaction is made anew; law 11's Begin. pager.Made, however many pages were made. A pager of a first transaction is made anew; law 11's Begin. The document's own tree: its order, where a key is, a pair put in. How many stand ahead of a key: in a leaf, and in all pairs. The way to a key ends at the leaf that would hold it: what is found there is what the tree has.
-/
import Derived.Test.YtijlmjfemedjdaaGreatDoorMHGwLeaves
import Derived.Test.YtijlmjfemedjdaaGreatDoorMHGvFind
import Derived.Test.YtijlmjfemedjdaaGreatDoorMHGvPutDel
import Derived.Test.YtijlmjfemedjdaaGreatDoorMHGwWalk
import Derived.Test.YtijlmjfemedjdaaGreatDoorMHGwSeal
import Derived.Carry
import Derived.Test.YtijlmjfemedjdaaGreatDoorMHGwMade0
import Derived.Test.YtijlmjfemedjdaaGreatDoorMHGvAny2
import Derived.Test.YtijlmjfemedjdaaGreatDoorMHGwReplace
set_option linter.unusedVariables false
set_option linter.unusedSimpArgs false
set_option linter.unusedVariables false
set_option linter.unusedSimpArgs false
namespace Go.Ev

theorem Seg.get {T : Int → Bytes → Option Bytes → List Pair → List Int → Prop} : ∀ {L : List Child} {hi : Option Bytes} {ps : List Pair} {ids : List Int} {i : Nat} {y : Child}, Seg T L hi ps ids → L[i]? = some y → ∃ h p q, T y.page y.key h p q
  | [], _, _, _, _, _, _, h => by simp at h
  | c :: L, hi, ps, ids, 0, y, ⟨p1, p2, i1, i2, _, _, h3, _⟩, h => by
    simp only [List.getElem?_cons_zero, Option.some.injEq] at h
    subst h
    exact ⟨_, _, _, h3⟩
  | c :: L, hi, ps, ids, i + 1, y, ⟨p1, p2, i1, i2, _, _, _, h4⟩, h => Seg.get h4 (by simpa using h)

theorem headKey_page (k : Bytes) : ∀ (L : List Child) (i : Nat) (x : Child), (headKey k L)[i]? = some x → ∃ y, L[i]? = some y ∧ y.page = x.page
  | [], i, x, h => by simp [headKey] at h
  | c :: L, 0, x, h => by
    simp only [headKey, List.getElem?_cons_zero, Option.some.injEq] at h
    subst h
    exact ⟨c, rfl, rfl⟩
  | c :: L, i + 1, x, h => ⟨x, by simpa [headKey] using h, rfl⟩

theorem findC_lt {k : Bytes} {c : Child} {L : List Child} : findC k (c :: L) < (c :: L).length := by
  have := below_le k L
  unfold findC
  simp only [List.tail_cons, List.length_cons]
  omega

theorem TreeAt.way {M : Store} {d : Nat} (key : Bytes) : ∀ {k lev : Nat} {id : Int} {lo : Bytes} {hi : Option Bytes} {ps : List Pair} {ids : List Int}, TreeAt M d k id lo hi ps ids → (2 ≤ d ∨ 0 < lev) → lev + k < 30 → (ps ≠ [] ∨ lev = 0) →
    ∃ P lid items, Way M key lev id P lid items ∧ P.length = k
  | 0, lev, id, lo, hi, ps, ids, ⟨items, i2, h1, h2, h3, h4, h5, h6⟩, hd, hl, hp => by
    refine ⟨[], id, items, .leaf h1 h2 h3 ?_ (by omega), rfl⟩
    rcases hp with hp | hp
    · refine .inl fun e => hp ?_
      subst e
      exact h4.1
    · exact .inr hp
  | k + 1, lev, id, lo, hi, ps, ids, ⟨c, L, i2, h1, h2, h3, h4, h5, h6, h7⟩, hd, hl, hp => by
    have hlt : findC key (headKey [] (c :: L)) < (headKey [] (c :: L)).length := findC_lt
    obtain ⟨x, hx⟩ : ∃ x, (headKey [] (c :: L))[findC key (headKey [] (c :: L))]? = some x := ⟨_, List.getElem?_eq_getElem hlt⟩
    obtain ⟨y, hy, hpg⟩ := headKey_page [] _ _ _ hx
    obtain ⟨h', p', q', ht, hne⟩ := Seg.get h6 hy
    rw [hpg] at ht
    obtain ⟨P, lid, items, hw, hlen⟩ := TreeAt.way (lev := lev + 1) key ht (.inr (by omega)) (by omega) (.inl hne)
    refine ⟨_, lid, items, .branch h1 h2 h3 ?_ (by omega) hx hw, by simp [hlen]⟩
    rcases hd with hd | hd
    · refine .inl ?_
      simp only [headKey, List.length_cons]
      omega
    · exact .inr hd
end Go.Ev

set_option linter.unusedVariables false
set_option linter.unusedSimpArgs false
namespace Go.Ev

theorem TopAt.way {M : Store} {k : Nat} {root : Int} {ps : List Pair} {ids : List Int} (h : TopAt M k root ps ids) (key : Bytes) (hk : k < 30) : ∃ P lid items, Way M key 0 root P lid items ∧ P.length = k := by
  cases k with
  | zero =>
    obtain ⟨items, i2, h1, h2, h3, _⟩ := h.tree
    exact ⟨[], root, items, .leaf h1 h2 h3 (.inr rfl) (by omega), rfl⟩
  | succ k =>
    obtain ⟨c, L, i2, h1, h2, h3, h4, h5, h6, h7⟩ := h.tree
    have hw : 2 ≤ (headKey [] (c :: L)).length := by
      have := h.wide.resolve_left (by omega)
      rw [kidsAt_of h1 h2 h3] at this
      exact this
    have hlt : findC key (headKey [] (c :: L)) < (headKey [] (c :: L)).length := findC_lt
    obtain ⟨x, hx⟩ : ∃ x, (headKey [] (c :: L))[findC key (headKey [] (c :: L))]? = some x := ⟨_, List.getElem?_eq_getElem hlt⟩
    obtain ⟨y, hy, hpg⟩ := headKey_page [] _ _ _ hx
    obtain ⟨h', p', q', ht, hne⟩ := Seg.get h6 hy
    rw [hpg] at ht
    obtain ⟨P, lid, items, hw', hlen⟩ := TreeAt.way (lev := 1) key ht (.inr (by omega)) (by omega) (.inl hne)
    exact ⟨_, lid, items, .branch h1 h2 h3 (.inl hw) (by omega) hx hw', by simp [hlen]⟩
end Go.Ev

set_option linter.unusedVariables false
set_option linter.unusedSimpArgs false
namespace Go.Ev
open Go.Proofs Go.RowKit

/-- A walk through a tree: its block, the pages met, the map that has them, the height, the keys. -/
structure SeeAt (w : World) (p b sb : Nat) (iv : Value) (ids : List Int) (l : List Ent) (cc : Nat) (ht ks : Int) : Prop where
  blk : Blk w b 79 #[ptrV p, iv, .map (some sb), .int .i64 ht, .int .i64 ks]
  row : w.ownsRow 0 3 1 iv ids.length (intsV ids)
  map : MapI w sb l cc
  mem : ∀ j, j ∈ keysE l ↔ j ∈ ids

def SeeS (b sb : Nat) (iv : Value) (k : Nat) : Prop := k = b ∨ k = sb ∨ iv.ownBlock = some k

section
variable {w w' : World} {p b sb cc : Nat} {iv : Value} {ids : List Int} {l : List Ent} {ht ks : Int}

theorem SeeAt.keeps {S : Nat → Prop} (h : SeeAt w p b sb iv ids l cc ht ks) (hk : Keeps S w w') (hS : ∀ k, SeeS b sb iv k → ¬ S k) : SeeAt w' p b sb iv ids l cc ht ks :=
  ⟨h.blk.keeps hk (hS _ (.inl rfl)), own_keeps h.row hk fun k hk' => hS _ (.inr (.inr hk')), h.map.keeps hk (hS _ (.inr (.inl rfl))), h.mem⟩
theorem SeeAt.below (h : SeeAt w p b sb iv ids l cc ht ks) (hb : Below w.heap.size w w') : SeeAt w' p b sb iv ids l cc ht ks := h.keeps (S := fun _ => False) (Keeps.of_below hb) fun _ _ h => h
theorem SeeAt.lt (h : SeeAt w p b sb iv ids l cc ht ks) : ∀ k, SeeS b sb iv k → k < w.heap.size := by
  rintro k (rfl | rfl | hk)
  · exact h.blk.lt
  · exact h.map.lt
  · exact (h.row.lt k hk).2

def SeeP (p b sb : Nat) (iv : Value) (ids : List Int) (ht ks : Int) (new : List Int) (w : World) (e : Ending) (w' : World) : Prop :=
  e = .returned (.bool true) ∧ ∃ iv' l' cc', SeeAt w' p b sb iv' (ids ++ new) l' cc' ht ks ∧ Keeps (SeeS b sb iv) w w' ∧ ∀ k, iv'.ownBlock = some k → iv.ownBlock = some k ∨ w.heap.size ≤ k

def seeX (wr : World) (sb : Nat) (l1 : List Ent) (c1 : Nat) (x : Int) : World := (turn (wr.alloc (.cells #[] 185)) sb (putE l1 x (.agg #[]) c1) (clockE l1 x c1)).alloc (.cells #[.int .i64 x] 3)

theorem see_step {wr w4 : World} {iv1 v4 : Value} {idl : List Int} {l1 : List Ent} {c1 : Nat} {x : Int} (hS : SeeAt wr p b sb iv1 idl l1 c1 ht ks) (hw : Keeps (SeeS b sb iv) w wr) (hO : ∀ k, iv1.ownBlock = some k → iv.ownBlock = some k ∨ w.heap.size ≤ k)
    (own4 : w4.ownsRow 0 3 1 v4 (idl.length + 1) (intsV idl ++ [.int .i64 x])) (hg : (seeX wr sb l1 c1 x).grownBy w4 iv1.ownBlock) (hat : ∀ k, v4.ownBlock = some k → iv1.ownBlock = some k ∨ (seeX wr sb l1 c1 x).heap.size ≤ k) :
    SeeAt (w4.setCell ⟨b, 1, none⟩ v4) p b sb v4 (idl ++ [x]) (putE l1 x (.agg #[]) c1) (clockE l1 x c1) ht ks ∧ Keeps (SeeS b sb iv) w (w4.setCell ⟨b, 1, none⟩ v4) ∧ (∀ k, v4.ownBlock = some k → iv.ownBlock = some k ∨ w.heap.size ≤ k) ∧ w4.cell? ⟨b, 1, none⟩ = some iv1 ∧ w4.frozen? ⟨b, 1, none⟩ = false := by
  have hsz : (seeX wr sb l1 c1 x).heap.size = wr.heap.size + 1 + 1 := by simp [seeX, turn_size]
  have hmb : sb ≠ b := hS.map.ne hS.blk
  have hrb : ∀ k, iv1.ownBlock = some k → k ≠ b := own_ne hS.row hS.blk (by decide)
  have hrm : ∀ k, iv1.ownBlock = some k → k ≠ sb := hS.map.ne_own hS.row
  have KA : Keeps (fun k => k = sb) wr (seeX wr sb l1 c1 x) := (turn_keeps ((Keeps.refl (fun k => k = sb) wr).alloc _) (fun _ => rfl) _ _).alloc _
  have KB : Keeps (fun k => iv1.ownBlock = some k) (seeX wr sb l1 c1 x) w4 := (Keeps.refl _ _).grown hg (fun k hk _ => hk)
  have b2 := (hS.blk.keeps KA (fun e => hmb e.symm)).keeps KB (fun e => hrb _ e rfl)
  have hm1 : MapI (seeX wr sb l1 c1 x) sb (putE l1 x (.agg #[]) c1) (clockE l1 x c1) := by
    have h1 : MapI (wr.alloc (.cells #[] 185)) sb l1 c1 := hS.map.keeps (S := fun _ => False) ((Keeps.refl _ wr).alloc _) (fun h => h)
    exact (h1.turned _ _).keeps (S := fun _ => False) ((Keeps.refl _ _).alloc _) (fun h => h)
  have hm2 := hm1.keeps KB (fun e => hrm _ e rfl)
  have hvb : ∀ k, v4.ownBlock = some k → k ≠ b := fun k hk e => by
    rcases hat k hk with h1 | h1
    · exact hrb k h1 e
    · have := hS.blk.lt; omega
  have KC : Keeps (fun k => k = b) w4 (w4.setCell ⟨b, 1, none⟩ v4) := (Keeps.refl (fun k => k = b) w4).setCell (p := ⟨b, 1, none⟩) (fun _ => rfl) _
  refine ⟨⟨b2.set 1 v4, ?_, hm2.keeps KC hmb, fun j => ?_⟩, ?_, fun k hk => ?_, b2.cell 1, b2.frozen 1⟩
  · have := own_keeps own4 KC hvb
    simpa [intsV] using this
  · rw [keys_put_mem, hS.mem j, List.mem_append, List.mem_singleton]
    exact Or.comm
  · refine ((hw.trans KA fun i hi e => .inr (.inl e)).trans KB fun i hi e => ?_).trans KC fun i hi e => .inl e
    rcases hO i e with e | e
    · exact .inr (.inr e)
    · omega
  · rcases hat k hk with h1 | h1
    · exact hO k h1
    · have := hw.size; exact .inr (by omega)

set_option maxHeartbeats 4000000 in
set_option maxRecDepth 100000 in
theorem see_ok (A : Option Addr) (n c : Nat) (new : List Int) (h : SeeAt w p b sb iv ids l cc ht ks) (hsl : Sl w 1 (.slice A n c) n (intsV new)) (hA : ∀ g o, A = some ⟨g, o, none⟩ → ¬ SeeS b sb iv g) (hnd : new.Nodup) (hdis : ∀ j ∈ new, j ∉ ids) (hn : ids.length + new.length ≤ 100000) :
    Calls Tryz.prog 142 #[ptrV b, .slice A n c] w (SeeP p b sb iv ids ht ks new w) := by
  have hln : n = new.length := by obtain ⟨_, _, _, _, h1, _⟩ := hsl; simp [intsV] at h1; omega
  subst hln
  obtain ⟨j0, hj, hz0, hz1, hz2⟩ := info_parts infoInt
  have HH := Lib.hid (And.intro h (And.intro hsl (And.intro hA (And.intro hnd hdis))))
  clear h hsl hA hnd hdis
  go_enter Tryz.func142, Tryz.ntmps142
  go_wp2_with (fail)
  go_loopg [11] new.length (fun gk s11 wr => ∃ (i : Nat) (iv' : Value) (l' : List Ent) (cc' : Nat), s11 = .int .i64 (i : Int) ∧ i + gk = new.length ∧ Hid (SeeAt wr p b sb iv' (ids ++ new.take i) l' cc' ht ks ∧ Keeps (SeeS b sb iv) w wr ∧ ∀ k, iv'.ownBlock = some k → iv.ownBlock = some k ∨ w.heap.size ≤ k))
  case atStart => exact ⟨0, iv, l, cc, rfl, by omega, by simpa using HH.out.1, Keeps.refl _ _, fun k hk => .inl hk⟩
  case round =>
    obtain ⟨i, iv', l', cc', rfl, hi, hI⟩ := hrel
    by_cases hlt : i < new.length
    · obtain ⟨h, hsl, hA, hnd, hdis⟩ := HH.out
      obtain ⟨hS, hK, hO⟩ := hI.out
      obtain ⟨x, hx⟩ : ∃ x, x = new[i] := ⟨_, rfl⟩
      have hxn : x ∉ ids ++ new.take i := by
        intro hm
        rcases List.mem_append.1 hm with hm | hm
        · exact hdis x (by rw [hx]; exact List.getElem_mem ..) hm
        · obtain ⟨j, hj1, hj2⟩ := List.mem_take_iff_getElem.1 hm
          rw [hx] at hj2
          exact List.pairwise_iff_getElem.1 hnd j i (by omega) hlt (by omega) hj2
      have hgn : getE l' x = none := by
        cases hg : getE l' x with
        | none => rfl
        | some u => exact absurd ((hS.mem x).1 (getE_mem.1 (by rw [hg]; rfl))) hxn
      obtain ⟨Ai, ci, rfl, _⟩ := Sl.of_own hS.row
      have hml : (ids ++ new.take i).length ≤ 100000 := by rw [List.length_append, List.length_take]; omega
      obtain ⟨_, _, e0, _, _, hcl⟩ := hsl
      cases e0
      obtain ⟨ab, ao, rfl, hab, hcell⟩ := hcl (by omega)
      have x0 : wr.cell? ⟨ab, ao + i, none⟩ = some (.int .i64 x) := (hK.cell (p := ⟨ab, ao + i, none⟩) hab (hA _ _ rfl)).trans (hcell i _ (by simp [intsV, hx, hlt]))
      have lk := run_lookup_I (P := Tryz.prog) hS.map Tryz.underlying77 Tryz.underlying3 zero_unit x
      rw [hgn] at lk
      simp only [Option.getD_none, Option.isSome_none] at lk
      have hS1 := hS.below ((Below.refl _ wr).alloc (Nat.le_refl _) (.cells #[] 185))
      have up := run_update_I (P := Tryz.prog) hS1.map Tryz.underlying77 Tryz.underlying3 x (.agg #[])
      have c2 : wr.cell? ⟨b, 2, none⟩ = some (.map (some sb)) := hS.blk.cell 2
      have c2a : (wr.alloc (.cells #[] 185)).cell? ⟨b, 2, none⟩ = some (.map (some sb)) := hS1.blk.cell 2
      have hmb : sb ≠ b := hS.map.ne hS.blk
      have KT : Keeps (fun k => k = sb) wr (turn (wr.alloc (.cells #[] 185)) sb (putE l' x (.agg #[]) cc') (clockE l' x cc')) := turn_keeps ((Keeps.refl (fun k => k = sb) wr).alloc _) (fun _ => rfl) _ _
      have c1 : (turn (wr.alloc (.cells #[] 185)) sb (putE l' x (.agg #[]) cc') (clockE l' x cc')).cell? ⟨b, 1, none⟩ = some (.slice Ai (ids ++ new.take i).length ci) := (hS.blk.keeps KT (fun e => hmb e.symm)).cell 1
      have hOw := own_keeps hS.row (KT.alloc (.cells #[.int .i64 x] 3)) (fun k hk => hS.map.ne_own hS.row k hk)
      have hszT : (turn (wr.alloc (.cells #[] 185)) sb (putE l' x (.agg #[]) cc') (clockE l' x cc')).heap.size = wr.heap.size + 1 := by simp [turn_size]
      have HSt := Lib.hid (fun v4 w4 r1 r2 r3 => see_step (v4 := v4) (w4 := w4) (x := x) hS hK hO r1 r2 r3)
      have HOw := Lib.hid hOw
      have htk : ids ++ new.take (i + 1) = ids ++ new.take i ++ [x] := by rw [List.take_succ_eq_append_getElem hlt, hx, List.append_assoc]
      have HTk := Lib.hid htk
      have hi0 : (0 : Int) ≤ (i : Int) := by omega
      have hlt' : (i : Int) < (new.length : Int) := by omega
      have hw1 : IntKind.i64.wrap ((i : Int) + 1) = (i : Int) + 1 := IntWalk.i64_in _ (by omega)
      obtain ⟨m, hm⟩ : ∃ m, (ids ++ new.take i).length = m := ⟨_, rfl⟩
      rw [hm] at hml c1 HOw HSt
      have HM := Lib.hid hm
      clear hS hK hO hI hA hnd hdis hxn hgn hcl hcell hS1 KT hOw htk hx hm hmb
      go_wp2_with (at_builtin; go_must (refine wpList_append_at rfl _ _ 36 rfl 0 3 j0 _ 1 8 Tryz.underlying36 hj hz0 hz1 hz2 rfl (by decide) _ m (intsV (ids ++ new.take i)) rfl HOw.out ⟨wr.heap.size + 1, 0, none⟩ 1 1 [.int .i64 x] rfl rfl ?_ (by simp [Value.oneCell']) (by unfold maxLen; omega) (by omega) (Nat.zero_le _) ?_))
      · exact row_new1 _ _ _ _ (by simp [turn_size])
      intro v4 w4 own4 hg4 hat4
      obtain ⟨s1, s2, s3, y1, y2⟩ := HSt.out v4 w4 own4 hg4 (fun k hk => by have := hat4 k hk; simpa [seeX, turn_size] using this)
      have HN := Lib.hid (And.intro s1 (And.intro s2 s3))
      obtain ⟨A4, c4, rfl, _⟩ := Sl.of_own own4
      clear own4 hg4 hat4 s1 s2 s3
      go_wp2_with (fail)
      go_roundg (gk - 1)
      case measure => omega
      case rel => exact ⟨i + 1, _, _, _, by simp, by omega, by rw [HTk.out]; exact HN.out⟩
    · have hii : i = new.length := by omega
      have HE : Hid (SeeP p b sb iv ids ht ks new w (.returned (.bool true)) wr) := by
        obtain ⟨hS, hK, hO⟩ := hI.out
        rw [hii, List.take_length] at hS
        exact ⟨rfl, iv', l', cc', hS, hK, hO⟩
      have hlt' : ¬ (i : Int) < (new.length : Int) := by omega
      clear hlt hI
      go_wp2_with (fail)
      go_ret
      exact HE.out
end
end Go.Ev

set_option linter.unusedVariables false
set_option linter.unusedSimpArgs false
namespace Go.Ev
open Go.Proofs Go.RowKit

theorem devNew_any (most : Nat) (w : World) (h1 : 1 ≤ most) (h2 : most ≤ 3000) :
    Calls Tryz.prog 82 #[.int .i64 most] w fun e w' => e = .returned (.tuple #[ptrV w.heap.size, .int .i64 0]) ∧
      w.alloc (.cells #[.int .i64 most, .bool true, .bool false, .int .i64 0, .slice none 0 0, .slice none 0 0, .chan none] 134) = w' := by
  have g1 : ¬ (most : Int) < 1 := by omega
  have g2 : ¬ (3000 : Int) < (most : Int) := by omega
  go_enter Tryz.func82, Tryz.ntmps82
  go_wp2
  go_ret2
  exact ⟨rfl, rfl⟩

theorem DevAt.new (most : Nat) (w : World) (h2 : most ≤ 3000) :
    DevAt (w.alloc (.cells #[.int .i64 most, .bool true, .bool false, .int .i64 0, .slice none 0 0, .slice none 0 0, .chan none] 134)) w.heap.size most 0 (.slice none 0 0) (.slice none 0 0) :=
  ⟨Blk.new _ _ _, ⟨_, World.ownsRow_nil _ _ _ _⟩, ⟨_, World.ownsRow_nil _ _ _ _⟩, fun k h => (by cases h), ⟨by omega, by omega⟩⟩

theorem refNew_any (most : Nat) (w : World) (h1 : 1 ≤ most) (h2 : most ≤ 3000) :
    Calls Tryz.prog 83 #[.int .i64 most] w fun e w' => e = .returned (.tuple #[ptrV w.heap.size, .int .i64 0]) ∧ w.alloc (.cells (refDev most) 228) = w' := by
  have g1 : ¬ (most : Int) < 1 := by omega
  have g2 : ¬ (3000 : Int) < (most : Int) := by omega
  go_enter Tryz.func83, Tryz.ntmps83
  go_wp2
  go_ret2
  exact ⟨rfl, rfl⟩

theorem freePut_any (b : Nat) (w : World) :
    Calls Tryz.prog 80 #[ptrV b, .slice none 0 0] w fun e w' => e = .returned (.tuple #[]) ∧ w' = w := by
  go_enter Tryz.func80, Tryz.ntmps80
  go_wp2
  go_loopg [10] 0 (fun gk s10 wr => s10 = .int .i64 0 ∧ wr = w)
  case atStart => exact ⟨rfl, rfl⟩
  case round =>
    obtain ⟨rfl, rfl⟩ := hrel
    go_wp2_with (fail)
    refine bodyPost_end (results_none rfl _ _ _) rfl ?_
    exact ⟨rfl, rfl⟩

theorem freeNew_any (w : World) :
    Calls Tryz.prog 86 #[.slice none 0 0] w fun e w' => e = .returned (ptrV w.heap.size) ∧ w.alloc (.cells #[.slice none 0 0, .slice none 0 0, .map none] 143) = w' := by
  have hB : ∀ W : World, Calls Tryz.prog 57 #[ptrV w.heap.size, .slice none 0 0] W fun e w' => e = .returned (.tuple #[]) ∧ w' = W := by
    intro W
    go_enter Tryz.func57, Tryz.ntmps57
    go_wp2_with (fail)
    go_must (refine (freePut_any _ _).mono ?_)
    rintro e w1 ⟨rfl, rfl⟩
    go_wp2
    refine bodyPost_end (results_none rfl _ _ _) rfl ?_
    exact ⟨rfl, rfl⟩
  go_enter Tryz.func86, Tryz.ntmps86
  go_wp2_with (fail)
  go_must (refine (hB _).mono ?_)
  rintro e w1 ⟨rfl, rfl⟩
  go_wp2
  go_ret
  exact ⟨rfl, rfl⟩
end Go.Ev

set_option linter.unusedVariables false
set_option linter.unusedSimpArgs false
namespace Go.Ev
open Go.Proofs Go.RowKit

set_option maxRecDepth 100000 in
theorem cloneNil_any (w : World) : Calls Tryz.prog 130 #[.slice none 0 0] w fun e w' => e = .returned (.slice none 0 0) ∧ w = w' := by
  have q22 : ∀ (w : World) (a : Option Addr) (n c n' c' : Nat), (binOp .eql 36 (.slice a n c) (.slice none n' c')).run Tryz.prog w = .ok (.bool a.isNone) w := fun w a n c n' c' => Lib.run_eql_slice_nil w _ 3 a n c n' c' Tryz.underlying36
  go_enter Tryz.func130, Tryz.ntmps130
  go_wp2
  go_ret
  exact ⟨rfl, rfl⟩

theorem heapInit_nil (b : Nat) (w : World) (h : w.cell? ⟨b, 0, none⟩ = some (.slice none 0 0)) :
    Calls Tryz.prog 131 #[.iface 221 (.pointer (some ⟨b, 0, none⟩))] w fun e w' => e = .returned (.tuple #[]) ∧ w = w' := by
  have hm := m_len b _ w h
  go_enter Tryz.func131, Tryz.ntmps131
  go_wp2_with (fail)
  go_must (refine (lenN_any _ _ _ _).mono ?_)
  rintro e w2 ⟨rfl, rfl⟩
  go_wp2_with (fail)
  go_loopg [3] 0 (fun gk s3 wr => s3 = .int .i64 (-1) ∧ wr = w2)
  case atStart => exact ⟨rfl, rfl⟩
  case round =>
    obtain ⟨rfl, rfl⟩ := hrel
    go_wp2_with (fail)
    refine bodyPost_end (results_none rfl _ _ _) rfl ?_
    exact ⟨rfl, rfl⟩

theorem pileNew_any (w : World) :
    Calls Tryz.prog 74 #[.slice none 0 0] w fun e w' => e = .returned (ptrV w.heap.size) ∧ w.alloc (.cells #[.slice none 0 0] 140) = w' := by
  have hb : Blk (w.alloc (.cells #[.slice none 0 0] 140)) w.heap.size 140 #[.slice none 0 0] := Blk.new _ _ _
  have hI := Lib.hid (heapInit_nil w.heap.size _ (hb.cell 0))
  clear hb
  go_enter Tryz.func74, Tryz.ntmps74
  go_wp2_with (fail)
  go_must (refine (cloneNil_any _).mono ?_)
  rintro e w1 ⟨rfl, rfl⟩
  go_wp2_with (fail)
  go_must (refine hI.out.mono ?_)
  rintro e w2 ⟨rfl, rfl⟩
  go_wp2
  go_ret
  exact ⟨rfl, rfl⟩

/-- A pager without its maps and its pile. -/
def pg0 (d f : Nat) : Array Value := #[ptrV d, ptrV f, .int .i64 2, .int .i64 2, .int .i64 1, .map none, .map none, .map none, .pointer none]

def ClearP (p d f : Nat) (w : World) (e : Ending) (w' : World) : Prop :=
  e = .returned (.tuple #[]) ∧ ∃ mb db wb sb, Blk w' p 89 #[ptrV d, ptrV f, .int .i64 2, .int .i64 2, .int .i64 1, .map (some mb), .map (some db), .map (some wb), ptrV sb] ∧ MapI w' mb [] 0 ∧ MapI w' db [] 0 ∧ MapI w' wb [] 0 ∧ Pl w' sb (.slice none 0 0) [] ∧
    w.heap.size ≤ mb ∧ mb < db ∧ db < wb ∧ wb < sb ∧ Keeps (fun k => k = p) w w'

theorem MapI.newM (w : World) : MapI (w.alloc (.map #[] 0)) w.heap.size [] 0 := heap_alloc_new w _

theorem MapI.allocM {w : World} {b c : Nat} {l : List Ent} (h : MapI w b l c) (o : Obj) : MapI (w.alloc o) b l c := h.keeps (S := fun _ => False) (Keeps.of_below ((Below.refl _ w).alloc (Nat.le_refl _) o)) fun h => h
theorem MapI.setM {w : World} {b c : Nat} {l : List Ent} (h : MapI w b l c) {q : Addr} (hq : b ≠ q.block) (u : Value) : MapI (w.setCell q u) b l c := h.keeps (S := fun k => k = q.block) ((Keeps.refl (fun k => k = q.block) w).setCell (fun _ => rfl) u) hq

theorem pl_new (w : World) : Pl (w.alloc (.cells #[.slice none 0 0] 140)) w.heap.size (.slice none 0 0) [] := by
  have hb : Blk (w.alloc (.cells #[.slice none 0 0] 140)) w.heap.size 140 #[.slice none 0 0] := Blk.new _ _ _
  exact ⟨hb.cell 0, hb.frozen 0, hb.lt, World.ownsRow_nil _ _ _ _, by simp [Value.ownBlock]⟩

theorem clear_end {p d f : Nat} {w w1 w2 w3 w4 : World} (h : Blk w p 89 (pg0 d f)) (e1 : w.alloc (.map #[] 0) = w1) (e2 : w1.alloc (.map #[] 0) = w2) (e3 : w2.alloc (.map #[] 0) = w3) (e4 : w3.alloc (.cells #[.slice none 0 0] 140) = w4) :
    ClearP p d f w (.returned (.tuple #[])) ((((w4.setCell ⟨p, 5, none⟩ (.map (some w.heap.size))).setCell ⟨p, 6, none⟩ (.map (some w1.heap.size))).setCell ⟨p, 7, none⟩ (.map (some w2.heap.size))).setCell ⟨p, 8, none⟩ (ptrV w3.heap.size)) := by
  have hp := h.lt
  have z1 : w1.heap.size = w.heap.size + 1 := by subst e1; simp
  have z2 : w2.heap.size = w.heap.size + 2 := by subst e2; simp [z1]
  have z3 : w3.heap.size = w.heap.size + 3 := by subst e3; simp [z2]
  have hb : Blk w4 p 89 (pg0 d f) := by subst e4 e3 e2 e1; exact (((h.alloc _).alloc _).alloc _).alloc _
  have K : Keeps (fun k => k = p) w4 ((((w4.setCell ⟨p, 5, none⟩ (.map (some w.heap.size))).setCell ⟨p, 6, none⟩ (.map (some w1.heap.size))).setCell ⟨p, 7, none⟩ (.map (some w2.heap.size))).setCell ⟨p, 8, none⟩ (ptrV w3.heap.size)) :=
    ((((Keeps.refl (fun k => k = p) w4).setCell (p := ⟨p, 5, none⟩) (fun _ => rfl) _).setCell (p := ⟨p, 6, none⟩) (fun _ => rfl) _).setCell (p := ⟨p, 7, none⟩) (fun _ => rfl) _).setCell (p := ⟨p, 8, none⟩) (fun _ => rfl) _
  have K0 : Keeps (fun k => k = p) w w4 := by subst e4 e3 e2 e1; exact ((((Keeps.refl _ w).alloc _).alloc _).alloc _).alloc _
  have m1 : MapI w4 w.heap.size [] 0 := by subst e4 e3 e2 e1; exact (((MapI.newM w).allocM _).allocM _).allocM _
  have m2 : MapI w4 w1.heap.size [] 0 := by subst e4 e3 e2; exact ((MapI.newM w1).allocM _).allocM _
  have m3 : MapI w4 w2.heap.size [] 0 := by subst e4 e3; exact (MapI.newM w2).allocM _
  have m4 : Pl w4 w3.heap.size (.slice none 0 0) [] := by subst e4; exact pl_new w3
  refine ⟨rfl, w.heap.size, w1.heap.size, w2.heap.size, w3.heap.size, ?_, m1.keeps K (by omega), m2.keeps K (by omega), m3.keeps K (by omega), m4.keeps K (by omega) (fun k e => by cases e), by omega, by omega, by omega, by omega, K0.trans K fun _ _ e => e⟩
  exact (((hb.set 5 _).set 6 _).set 7 _).set 8 _

set_option maxHeartbeats 1000000 in
theorem clear_any (p d f : Nat) (w : World) (h : Blk w p 89 (pg0 d f)) : Calls Tryz.prog 59 #[ptrV p] w (ClearP p d f w) := by
  have hp := h.lt
  obtain ⟨w1, e1⟩ : ∃ w1, w.alloc (.map #[] 0) = w1 := ⟨_, rfl⟩
  obtain ⟨w2, e2⟩ : ∃ w2, w1.alloc (.map #[] 0) = w2 := ⟨_, rfl⟩
  obtain ⟨w3, e3⟩ : ∃ w3, w2.alloc (.map #[] 0) = w3 := ⟨_, rfl⟩
  obtain ⟨w4, e4⟩ : ∃ w4, w3.alloc (.cells #[.slice none 0 0] 140) = w4 := ⟨_, rfl⟩
  have hb : Blk w4 p 89 (pg0 d f) := by subst e4 e3 e2 e1; exact (((h.alloc _).alloc _).alloc _).alloc _
  have HE := Lib.hid (clear_end h e1 e2 e3 e4)
  have f5 := hb.frozen 5
  have f6 := hb.frozen 6
  have f7 := hb.frozen 7
  have f8 := hb.frozen 8
  have c5 : w4.cell? ⟨p, 5, none⟩ = some (.map none) := hb.cell 5
  have c6 : w4.cell? ⟨p, 6, none⟩ = some (.map none) := hb.cell 6
  have c7 : w4.cell? ⟨p, 7, none⟩ = some (.map none) := hb.cell 7
  have c8 : w4.cell? ⟨p, 8, none⟩ = some (.pointer none) := hb.cell 8
  have hN := Lib.hid (pileNew_any w3)
  rw [e4] at hN
  subst e1 e2 e3
  clear e4 hb h
  have hMM : ∀ (t : TypeId) (W : World), (Instr.makeMap t none).run Tryz.prog W = .ok (.map (some W.heap.size)) (W.alloc (.map #[] 0)) := fun t W => run_makeMap t W
  go_enter Tryz.func59, Tryz.ntmps59
  go_wp2_with (fail)
  go_must (refine hN.out.mono ?_)
  rintro e w5 ⟨rfl, rfl⟩
  go_wp2_with (fail)
  go_end0
  have hE := HE.out
  simp only [World.size_alloc] at hE
  exact hE

set_option maxRecDepth 100000 in
theorem listNil_any (f : Nat) (w : World) (h : w.cell? ⟨f, 0, none⟩ = some (.slice none 0 0)) :
    Calls Tryz.prog 58 #[ptrV f] w fun e w' => e = .returned (.slice none 0 0) ∧ Below w.heap.size w w' := by
  go_enter Tryz.func58, Tryz.ntmps58
  have hV : Calls Tryz.prog 123 #[.slice none 0 0] w fun e w' => e = .returned (.func (.func 169) #[] #[.pointer (some ⟨w.heap.size, 0, none⟩)]) ∧ w.alloc (.cells #[.slice none 0 0] 138) = w' := by
    go_enter Tryz.func123, Tryz.ntmps123
    go_wp2
    go_ret
    exact ⟨rfl, rfl⟩
  go_wp2_with (fail)
  go_must (refine hV.mono ?_)
  rintro e w1 ⟨rfl, rfl⟩
  go_wp2_with (fail)
  go_must (refine (sorted_nil (Blk.new _ _ _)).mono ?_)
  rintro e w2 ⟨rfl, hk⟩
  go_wp2_with (fail)
  go_ret
  refine ⟨rfl, ((Below.refl _ w).alloc (Nat.le_refl _) _).trans (hk.below (by simp) fun i hi e => by omega)⟩

set_option maxRecDepth 100000 in
set_option maxHeartbeats 2000000 in
theorem freeAll_any (f : Nat) (w : World) (h : Blk w f 143 #[.slice none 0 0, .slice none 0 0, .map none]) :
    Calls Tryz.prog 67 #[ptrV f] w fun e w' => e = .returned (.slice none 0 0) ∧ Below w.heap.size w w' := by
  have hL := Lib.hid (listNil_any f w (h.cell 0))
  have hlt := h.lt
  have g1 : w.cell? ⟨f, 1, none⟩ = some (.slice none 0 0) := h.cell 1
  clear h
  go_enter Tryz.func67, Tryz.ntmps67
  go_wp2_with (fail)
  go_must (refine hL.out.mono ?_)
  rintro e w1 ⟨rfl, hb⟩
  have g1' : w1.cell? ⟨f, 1, none⟩ = some (.slice none 0 0) := (hb.cell (p := ⟨f, 1, none⟩) hlt).trans g1
  go_wp2_with (fail)
  go_loopg [3, 17] 0 (fun gk s3 s17 wr => s3 = .slice none 0 0 ∧ s17 = .int .i64 0 ∧ wr = w1)
  case atStart => exact ⟨rfl, rfl, rfl⟩
  case round =>
    obtain ⟨rfl, rfl, rfl⟩ := hrel
    go_wp2_with (fail)
    go_must (refine (sort_nil _).mono ?_)
    rintro e w2 ⟨rfl, hb2⟩
    go_wp2_with (fail)
    go_ret
    exact ⟨rfl, hb.trans (hb2.mono hb.size)⟩

set_option maxRecDepth 100000 in
theorem indexNil_any (F : Value) (w : World) : Calls Tryz.prog 129 #[.slice none 0 0, F] w fun e w' => e = .returned (.int .i64 (-1)) ∧ w = w' := by
  go_enter Tryz.func129, Tryz.ntmps129
  go_wp2_with (fail)
  go_loopg [8] 0 (fun gk s8 wr => s8 = .int .i64 0 ∧ wr = w)
  case atStart => exact ⟨rfl, rfl⟩
  case round =>
    obtain ⟨rfl, rfl⟩ := hrel
    go_wp2_with (fail)
    go_ret
    exact ⟨rfl, rfl⟩

set_option maxRecDepth 100000 in
theorem containsNil_any (F : Value) (w : World) : Calls Tryz.prog 66 #[.slice none 0 0, F] w fun e w' => e = .returned (.bool false) ∧ w = w' := by
  go_enter Tryz.func66, Tryz.ntmps66
  go_wp2_with (fail)
  go_must (refine (indexNil_any _ _).mono ?_)
  rintro e w1 ⟨rfl, rfl⟩
  go_wp2
  go_ret
  exact ⟨rfl, rfl⟩
end Go.Ev

set_option linter.unusedVariables false
set_option linter.unusedSimpArgs false
namespace Go.Ev
open Go.Proofs Go.RowKit Go.Maps Go.Sort Go.Shelf

/-- A map of pages reads as a datum of so many keys. -/
theorem ownedN {w : World} {b : Nat} {l : List Ent} {c : Nat} (h : MapI w b l c) (hc : Clk l c) (hn : (keysE l).Nodup) (hl : l.length ≤ 1000000) (hk : ∀ k ∈ keysE l, -9223372036854775808 ≤ k ∧ k ≤ 9223372036854775807) :
    ∃ D : DataW Unit, w.ownsMap Tryz.prog 3 anyRK b l.length D ∧ Maps.size D = l.length := by
  have hrd : ∀ e ∈ l, WideElems.rd (H := Unit) Tryz.prog 3 anyRK (entA e) = some (.int .i64 e.1, .lit (.bool true)) := fun e he => by
    have hb := hk e.1 (by unfold keysE; exact List.mem_map_of_mem he)
    have hw : (Lit.int .i64 e.1).wf = true := by
      simp only [Lit.wf, IntKind.min, IntKind.max, IntKind.signed, IntKind.bits]
      simp
      omega
    unfold WideElems.rd entA
    rw [Maps.keyOf_int_mk Tryz.underlying3 hw]
    rfl
  refine ⟨.map (((l.map entA).map (WideElems.rg Tryz.prog 3 anyRK)).foldr DataW.insert []), ⟨(l.map entA).toArray, c, h, ⟨?_, ?_, fun x hx => ?_⟩, by simp, rfl⟩, ?_⟩
  · simp only [List.size_toArray, List.length_map]
    unfold maxLen
    omega
  · refine ⟨fun x hx => ?_, ?_, ?_⟩
    · simp only [List.mem_map] at hx
      obtain ⟨e, he, rfl⟩ := hx
      exact hc.1 _ (List.mem_map_of_mem (f := fun e : Ent => e.2.2) he)
    · rw [show (l.map entA).toArray.toList.map (·.born) = l.map (fun e : Ent => e.2.2) by simp [entA, Function.comp_def]]
      exact hc.2
    · rw [show (l.map entA).toArray.toList.map (·.key) = (keysE l).map (Value.int .i64) by simp [entA, keysE, Function.comp_def]]
      exact List.Pairwise.map _ (fun a b hab e => hab (by cases e; rfl)) hn
  · simp only [List.mem_map] at hx
    obtain ⟨e, he, rfl⟩ := hx
    exact ⟨_, hrd e he⟩
  · show ((((l.map entA).map (WideElems.rg (H := Unit) Tryz.prog 3 anyRK)).foldr DataW.insert [])).length = l.length
    rw [(WideShapes.sorted_perm _).length_eq, List.length_map, List.length_map]

section
variable {p most cnt : Nat} {c : Pc} {M : Store}

set_option maxHeartbeats 2000000 in
set_option maxRecDepth 100000 in
theorem made_any (w : World) (h : PgOk w p c most M cnt) :
    Calls Tryz.prog 15 #[ptrV p] w fun e w' => ∃ A cc, e = .returned (.slice A cnt cc) ∧ Below w.heap.size w w' := by
  obtain ⟨n0, made, was, mc, wc, dc, spare, hA, hI, hP, hcnt⟩ := h
  have hn0 : n0 ≤ most := Nat.le_trans hA.len.1 hA.len.2
  obtain ⟨hsm1, hsm2⟩ := hA.dev.small
  have hcount := hI.count
  have hml : made.length ≤ 1000000 := by omega
  obtain ⟨D, hown, hsz⟩ := ownedN hA.mad hA.clk hI.nodM hml fun k hk => by
    have := (hI.cover k).2 (.inl hk)
    omega
  rw [← hcnt] at hsz hown
  have hcl : cnt ≤ 1000000 := by omega
  have g0 : w.cell? ⟨p, 0, none⟩ = some (ptrV c.d) := hA.blk.cell 0
  have g5 : w.cell? ⟨p, 5, none⟩ = some (.map (some c.mb)) := hA.blk.cell 5
  have hbl := hown.lt
  have hseq : SeqGives Fence.wide 2 Tryz.prog 91 #[.pointer (some ⟨w.heap.size, 0, none⟩)] encZ (fun ss => ss.Perm (intKeys D)) (Maps.size D) (w.alloc (.cells #[.map (some c.mb)] 84)) :=
    AnyZI.keys_gives (ρ := Tryz.keysA_ren) { Tryz.keysA with } Fence.wide _ trivial rfl (by omega) w.heap.size c.mb cnt D _ (by simp) (by simp) (by
      obtain ⟨es, clock, hb, Ft, hs, hD⟩ := hown
      exact ⟨es, clock, (Below.heap_alloc _ _ c.mb hbl).trans hb, Ft, hs, hD⟩)
  have cK : ∀ mb W, CallsIn Fence.wide 5 Tryz.prog 39 #[.map mb] W fun e w' => e = .returned (.func (.func 91) #[] #[.pointer (some ⟨W.heap.size, 0, none⟩)]) ∧ w' = W.alloc (.cells #[.map mb] 84) := fun mb W => AnyZI.keys_in Tryz.keysA Fence.wide 5 trivial rfl mb W
  have cS := AnyZI.sorted_in Tryz.sortedZ Fence.wide 5 trivial trivial trivial trivial rfl (by omega) (sortsK _) (enters_of Tryz.func90 (by kernel_rfl) rfl) 91 #[.pointer (some ⟨w.heap.size, 0, none⟩)] trivial (enters_of Tryz.func91 (by kernel_rfl) rfl) _ _ (by rw [hsz]; unfold maxLen; omega) (by rw [hsz]; omega) _ hseq
  change CallsIn _ _ Tryz.prog 38 _ _ _ at cS
  have hlen : (intKeys D).length = cnt := by
    have : (intKeys D).length = Maps.size D := by
      cases D <;> simp [intKeys, Maps.size]
    rw [this, hsz]
  have HK := Lib.hid (fun mb W => callsIn_wide.1 (cK mb W))
  have HS := Lib.hid (callsIn_wide.1 cS)
  have HLen := Lib.hid hlen
  clear hA hI hP hown hseq cK cS hbl hsz hlen hcount hcnt
  go_enter Tryz.func15, Tryz.ntmps15
  go_wp2_with (fail)
  go_must (refine (pgNone_any _ _ _ g0).mono ?_)
  rintro e w1 ⟨rfl, rfl⟩
  go_wp2_with (fail)
  go_must (refine (HK.out _ _).mono ?_)
  rintro e w2 ⟨rfl, rfl⟩
  go_wp2_with (fail)
  go_must (refine HS.out.mono ?_)
  rintro e w3 ⟨v3, ss, rfl, hS, hrow, hnil, hb⟩
  have hss : ss.length = cnt := by rw [hS.length_eq]; exact HLen.out
  rw [hss] at hrow
  obtain ⟨A, cc, rfl, -⟩ := Sl.of_own hrow
  have HB : Hid (Below w.heap.size w w3) := ((Below.refl _ w).alloc (Nat.le_refl _) _).trans (hb.mono (by simp))
  clear hrow hnil hb hS
  go_wp2_with (fail)
  go_ret
  exact ⟨_, _, rfl, HB.out⟩
end
end Go.Ev

set_option linter.unusedVariables false
set_option linter.unusedSimpArgs false
namespace Go.Ev
open Go.Proofs Go.RowKit

theorem pgInv_new : PgInv 2 [] [] [] := by
  refine ⟨List.nodup_nil, List.nodup_nil, List.nodup_nil, fun k => Iff.rfl, fun k => ⟨fun h => by omega, fun h => by rcases h with h | h <;> cases h⟩, (fun k h => by cases h), (fun k v h => by cases h), Nat.le_refl _, (fun k v h => by cases h)⟩

theorem pages_new : Pages [] (fun _ => none) := fun _ => rfl

theorem pgOk_new {m : Nat} (hm : 4 ≤ m ∧ m ≤ 3000) {w : World} {p d f mb db wb sb B : Nat} {sy nw : Value} (h : Blk w p 89 #[ptrV d, ptrV f, .int .i64 2, .int .i64 2, .int .i64 1, .map (some mb), .map (some db), .map (some wb), ptrV sb])
    (hf : Blk w f 143 #[.slice none 0 0, .slice none 0 0, .map none]) (hd : DevAt w d m 2 sy nw) (m1 : MapI w mb [] 0) (m2 : MapI w db [] 0) (m3 : MapI w wb [] 0) (hs : Pl w sb (.slice none 0 0) [])
    (hdB : d < B) (hfB : f < B) (hsy : ∀ k, sy.ownBlock = some k → k < B) (hnw : ∀ k, nw.ownBlock = some k → k < B) (hp : B ≤ p) (h1 : p < mb) (h2 : mb < db) (h3 : db < wb) (h4 : wb < sb) :
    PgOk w p ⟨d, f, mb, db, wb, sb, .slice none 0 0, sy, nw⟩ m (fun _ => none) 0 := by
  have hdf : d ≠ f := by
    rintro rfl
    have := (hd.blk.eq hf).1
    revert this
    decide
  have hsyd : ∀ k, sy.ownBlock = some k → k ≠ d ∧ k ≠ f := fun k e => by
    obtain ⟨cs, hr⟩ := hd.srow
    exact ⟨own_ne hr hd.blk (by decide) k e, own_ne hr hf (by decide) k e⟩
  have hnwd : ∀ k, nw.ownBlock = some k → k ≠ d ∧ k ≠ f := fun k e => by
    obtain ⟨cs, hr⟩ := hd.nrow
    exact ⟨own_ne hr hd.blk (by decide) k e, own_ne hr hf (by decide) k e⟩
  refine ⟨2, [], [], 0, 0, 0, [], ⟨h, hf, hd, m1, m2, m3, hs, ?_, ?_, ?_, ?_, ⟨Nat.le_refl _, by omega⟩, Clk.nil _⟩, pgInv_new, pages_new, rfl⟩
  · simp only [Pc.ids, List.nodup_cons, List.mem_cons, List.not_mem_nil, or_false, not_or, List.nodup_nil, not_false_eq_true, and_true]
    refine ⟨⟨?_, ?_, ?_, ?_, ?_, ?_⟩, ⟨hdf, ?_, ?_, ?_, ?_⟩, ⟨?_, ?_, ?_, ?_⟩, ⟨?_, ?_, ?_⟩, ⟨?_, ?_⟩, ?_⟩ <;> omega
  · intro k e; cases e
  · intro k e hm
    have a := hsyd k e
    have b := hsy k e
    simp only [Pc.ids, List.mem_cons, List.not_mem_nil, or_false] at hm
    rcases hm with hm | hm | hm | hm | hm | hm | hm <;> omega
  · intro k e hm
    have a := hnwd k e
    have b := hnw k e
    simp only [Pc.ids, List.mem_cons, List.not_mem_nil, or_false] at hm
    rcases hm with hm | hm | hm | hm | hm | hm | hm <;> omega

def PNewP (m d f : Nat) (sy nw : Value) (w : World) (e : Ending) (w' : World) : Prop :=
  ∃ p c, e = .returned (.tuple #[ptrV p, .int .i64 0]) ∧ PgOk w' p c m (fun _ => none) 0 ∧ (∀ k, c.S p k → k = d ∨ k = f ∨ sy.ownBlock = some k ∨ nw.ownBlock = some k ∨ w.heap.size ≤ k) ∧ Below w.heap.size w w'

theorem pnew_end {m : Nat} (hm : 4 ≤ m ∧ m ≤ 3000) {d f p : Nat} {sy nw : Value} {w w1 w2 w3 : World} (hd : DevAt w d m 2 sy nw) (hf : Blk w f 143 #[.slice none 0 0, .slice none 0 0, .map none]) (h1 : Below w.heap.size w w1) (hp : p = w1.heap.size) (e2 : w1.alloc (.cells (pg0 d f) 89) = w2) {e : Ending} (hc : ClearP p d f w2 e w3) :
    PNewP m d f sy nw w (.returned (.tuple #[ptrV p, .int .i64 0])) w3 := by
  have hb2 : Below w.heap.size w w2 := by subst e2; exact h1.alloc h1.size _
  have z2 : w2.heap.size = w1.heap.size + 1 := by subst e2; simp
  have hz := h1.size
  obtain ⟨_, mb, db, wb, sb, k1, k2, k3, k4, k5, k6, k7, k8, k9, kK⟩ := hc
  have hb3 : Below w.heap.size w w3 := hb2.trans (kK.below (by omega) (fun i hi e => by omega))
  have hd3 : DevAt w3 d m 2 sy nw := hd.keeps (S := fun _ => False) (Keeps.of_below hb3) fun _ _ h => h
  have hf3 := hf.below' hb3
  refine ⟨p, _, rfl, pgOk_new hm (B := w.heap.size) k1 hf3 hd3 k2 k3 k4 k5 hd.blk.lt hf.lt ?_ ?_ (by omega) (by omega) k7 k8 k9, ?_, hb3⟩
  · intro k e; obtain ⟨cs, hr⟩ := hd.srow; exact (hr.lt k e).2
  · intro k e; obtain ⟨cs, hr⟩ := hd.nrow; exact (hr.lt k e).2
  · rintro k (hk | hk | hk | hk)
    · simp only [Pc.ids, List.mem_cons, List.not_mem_nil, or_false] at hk
      rcases hk with hk | hk | hk | hk | hk | hk | hk
      · right; right; right; right; omega
      · left; omega
      · right; left; omega
      · right; right; right; right; omega
      · right; right; right; right; omega
      · right; right; right; right; omega
      · right; right; right; right; omega
    · cases hk
    · exact .inr (.inr (.inl hk))
    · exact .inr (.inr (.inr (.inl hk)))

set_option maxHeartbeats 2000000 in
set_option maxRecDepth 100000 in
theorem pagerNew_any {m : Nat} (hm : 4 ≤ m ∧ m ≤ 3000) (d f : Nat) (sy nw : Value) (w : World) (hd : DevAt w d m 2 sy nw) (hf : Blk w f 143 #[.slice none 0 0, .slice none 0 0, .map none]) :
    Calls Tryz.prog 24 #[ptrV d, ptrV f, .int .i64 2, .int .i64 1] w (PNewP m d f sy nw w) := by
  have hb0 : Below w.heap.size w (w.alloc (.cells #[.int .i64 2] 3)).drew := ((Below.refl _ w).alloc (Nat.le_refl _) _).drew
  have bx : Blk (w.alloc (.cells #[.int .i64 2] 3)).drew w.heap.size 3 #[.int .i64 2] := (Blk.new _ _ _).drew
  have x0 : (w.alloc (.cells #[.int .i64 2] 3)).drew.cell? ⟨w.heap.size, 0, none⟩ = some (.int .i64 2) := bx.cell 0
  have hL := Lib.hid (devLen_any d m 2 sy nw _ (hd.keeps (S := fun _ => False) (Keeps.of_below hb0) fun _ _ h => h))
  have hA := Lib.hid (freeAll_any f _ (hf.below' hb0))
  have hE := Lib.hid (fun (w1 w2 w3 : World) (p : Nat) (h1 : Below w.heap.size w w1) (hp : p = w1.heap.size) e2 e hc => pnew_end hm (w1 := w1) (w2 := w2) (w3 := w3) (e := e) hd hf h1 hp e2 hc)
  have hzz : (w.alloc (.cells #[.int .i64 2] 3)).drew.heap.size = w.heap.size + 1 := by simp
  have HB := Lib.hid hb0
  have HBX := Lib.hid bx
  have X0 := Lib.hid x0
  clear hd hf hb0 bx x0
  go_enter Tryz.func24, Tryz.ntmps24
  go_wp2_with (fail)
  have x0 := X0.out
  refine wp_region_any (by kernel_rfl) ?_
  change wpAny _ _ _ _ _ _ _ (World.drew _)
  try simp only [Act.put, lT, l0, lS]
  refine tA 0 ?_; try simp only [Act.put, lT, l0, lS]
  refine tA 1 ?_; try simp only [Act.put, lT, l0, lS]
  refine tA 2 ?_; try simp only [Act.put, lT, l0, lS]
  refine tA 3 ?_; try simp only [Act.put, lT, l0, lS]
  refine tA 4 ?_; try simp only [Act.put, lT, l0, lS]
  refine tA 5 ?_; try simp only [Act.put, lT, l0, lS]
  refine tA 6 ?_; try simp only [Act.put, lT, l0, lS]
  refine rd 7 (by kernel_rfl) rfl (fun K hK => ?_); go_simp; refine hK _ _ ?_; clear hK K
  try simp only [Act.put, lT, l0, lS]
  refine tA 8 ?_; try simp only [Act.put, lT, l0, lS]
  refine tA 9 ?_; try simp only [Act.put, lT, l0, lS]
  refine tA 10 ?_; try simp only [Act.put, lT, l0, lS]
  refine tA 12 ?_; try simp only [Act.put, lT, l0, lS]
  refine wpAny_ready (rs := [11, 13]) (by kernel_rfl) (by simp) (AllReady.cons (o := { dst := _, op := _, type := _, pos := _, after := _, guard := _ }) rfl (fun K hK => ?_) (AllReady.cons (o := { dst := _, op := _, type := _, pos := _, after := _, guard := _ }) rfl (fun K hK => ?_) AllReady.nil))
  · go_simp
    refine hK _ _ ?_
    clear hK K
    refine rd 13 (by kernel_rfl) rfl (fun K hK => ?_); go_simp
    (go_must (refine hL.out.mono ?_); rintro e w2 ⟨rfl, rfl⟩)
    go_simp
    refine hK _ _ ?_
    clear hK K
    try simp only [Act.put, lT, l0, lS]
    refine tA 14 ?_; try simp only [Act.put, lT, l0, lS]
    refine tA 15 ?_; try simp only [Act.put, lT, l0, lS]
    refine tA 16 ?_; try simp only [Act.put, lT, l0, lS]
    refine tA 17 ?_; try simp only [Act.put, lT, l0, lS]
    refine tA 18 ?_; try simp only [Act.put, lT, l0, lS]
    refine tA 19 ?_; try simp only [Act.put, lT, l0, lS]
    refine wpAny_done (by kernel_rfl) ?_ _
    go_wp2_with (fail)
    go_must (refine hA.out.mono ?_)
    rintro e w3 ⟨rfl, hb3⟩
    have x3 : w3.cell? ⟨w.heap.size, 0, none⟩ = some (.int .i64 2) := (HBX.out.below' hb3).cell 0
    have hz3 := hb3.size
    go_wp2_with (fail)
    go_must (refine (containsNil_any _ _).mono ?_)
    rintro e w4 ⟨rfl, rfl⟩
    go_wp2_with (fail)
    go_must (refine (clear_any w3.heap.size d f _ (Blk.new _ _ _)).mono ?_)
    intro e w5 hc
    have HC := Lib.hid hc
    obtain ⟨rfl, _⟩ := hc
    go_wp2_with (fail)
    go_ret2
    exact hE.out w3 _ w5 w3.heap.size (HB.out.trans (hb3.mono (by simp))) rfl rfl _ HC.out
  · go_simp
    (go_must (refine hL.out.mono ?_); rintro e w2 ⟨rfl, rfl⟩)
    go_simp
    refine hK _ _ ?_
    clear hK K
    refine rd 11 (by kernel_rfl) rfl (fun K hK => ?_); go_simp; refine hK _ _ ?_; clear hK K
    try simp only [Act.put, lT, l0, lS]
    refine tA 14 ?_; try simp only [Act.put, lT, l0, lS]
    refine tA 15 ?_; try simp only [Act.put, lT, l0, lS]
    refine tA 16 ?_; try simp only [Act.put, lT, l0, lS]
    refine tA 17 ?_; try simp only [Act.put, lT, l0, lS]
    refine tA 18 ?_; try simp only [Act.put, lT, l0, lS]
    refine tA 19 ?_; try simp only [Act.put, lT, l0, lS]
    refine wpAny_done (by kernel_rfl) ?_ _
    go_wp2_with (fail)
    go_must (refine hA.out.mono ?_)
    rintro e w3 ⟨rfl, hb3⟩
    have x3 : w3.cell? ⟨w.heap.size, 0, none⟩ = some (.int .i64 2) := (HBX.out.below' hb3).cell 0
    have hz3 := hb3.size
    go_wp2_with (fail)
    go_must (refine (containsNil_any _ _).mono ?_)
    rintro e w4 ⟨rfl, rfl⟩
    go_wp2_with (fail)
    go_must (refine (clear_any w3.heap.size d f _ (Blk.new _ _ _)).mono ?_)
    intro e w5 hc
    have HC := Lib.hid hc
    obtain ⟨rfl, _⟩ := hc
    go_wp2_with (fail)
    go_ret2
    exact hE.out w3 _ w5 w3.heap.size (HB.out.trans (hb3.mono (by simp))) rfl rfl _ HC.out

def BaseP (m : Nat) (w : World) (e : Ending) (w' : World) : Prop :=
  ∃ d g f h sy nw, e = .returned (.tuple #[ptrV d, ptrV g, ptrV f, ptrV h, .bool true]) ∧ DevAt w' d m 2 sy nw ∧ Blk w' f 143 #[.slice none 0 0, .slice none 0 0, .map none] ∧ w.heap.size ≤ d ∧ w.heap.size ≤ f ∧ (∀ k, sy.ownBlock = some k → w.heap.size ≤ k) ∧ (∀ k, nw.ownBlock = some k → w.heap.size ≤ k) ∧ Below w.heap.size w w'

theorem devNew3 {m : Nat} (hm : 4 ≤ m ∧ m ≤ 3000) (w : World) : Calls Tryz.prog 82 #[.int .i64 (m : Int)] w fun e w' => e = .returned (.tuple #[ptrV w.heap.size, .int .i64 0]) ∧ DevAt w' w.heap.size m 0 (.slice none 0 0) (.slice none 0 0) ∧ Below w.heap.size w w' ∧ w'.heap.size = w.heap.size + 1 :=
  (devNew_any m w (by omega) hm.2).mono fun e w' ⟨h1, h2⟩ => ⟨h1, h2 ▸ DevAt.new m w hm.2, h2 ▸ (Below.refl _ w).alloc (Nat.le_refl _) _, by rw [← h2]; simp⟩

theorem refNew3 {m : Nat} (hm : 4 ≤ m ∧ m ≤ 3000) (w : World) : Calls Tryz.prog 83 #[.int .i64 (m : Int)] w fun e w' => e = .returned (.tuple #[ptrV w.heap.size, .int .i64 0]) ∧ Blk w' w.heap.size 228 (refDev m) ∧ Below w.heap.size w w' ∧ w'.heap.size = w.heap.size + 1 :=
  (refNew_any m w (by omega) hm.2).mono fun e w' ⟨h1, h2⟩ => ⟨h1, h2 ▸ Blk.new _ _ _, h2 ▸ (Below.refl _ w).alloc (Nat.le_refl _) _, by rw [← h2]; simp⟩

theorem freeNew3 (w : World) : Calls Tryz.prog 86 #[.slice none 0 0] w fun e w' => e = .returned (ptrV w.heap.size) ∧ Blk w' w.heap.size 143 #[.slice none 0 0, .slice none 0 0, .map none] ∧ Below w.heap.size w w' ∧ w'.heap.size = w.heap.size + 1 :=
  (freeNew_any w).mono fun e w' ⟨h1, h2⟩ => ⟨h1, h2 ▸ Blk.new _ _ _, h2 ▸ (Below.refl _ w).alloc (Nat.le_refl _) _, by rw [← h2]; simp⟩

/-- What the parts of Base come to. -/
theorem base_end {m : Nat} {w w1 w2 w3 w4 w5 w6 : World} {sy nw : Value} {T : TypeId} {V : Array Value} (a1 : DevAt w1 w.heap.size m 0 (.slice none 0 0) (.slice none 0 0)) (b1 : Below w.heap.size w w1) (z1 : w1.heap.size = w.heap.size + 1)
    (b2 : Below w1.heap.size w1 w2) (z2 : w2.heap.size = w1.heap.size + 1) (a2 : Blk w2 w1.heap.size 228 (refDev m))
    (a3 : DevAt w3 w.heap.size m 2 sy nw) (k3 : GrowK w.heap.size (.slice none 0 0) (.slice none 0 0) sy nw w2 w3) (k4 : Keeps (fun k => k = w1.heap.size) w3 w4) (a5 : Blk w5 w4.heap.size 143 #[.slice none 0 0, .slice none 0 0, .map none])
    (b5 : Below w4.heap.size w4 w5) (b6 : Below w5.heap.size w5 w6) :
    BaseP m w (.returned (.tuple #[ptrV w.heap.size, ptrV w1.heap.size, ptrV w4.heap.size, ptrV w6.heap.size, .bool true])) (w6.alloc (.cells V T)) := by
  have hz3 := k3.keeps.size
  have hz4 := k4.size
  have hz5 := b5.size
  have hz6 := b6.size
  have c2 : Below w.heap.size w w2 := b1.trans (b2.mono (by omega))
  have c3 : Below w.heap.size w w3 := c2.trans (k3.keeps.below (by omega) (fun i hi e => by
    rcases e with e | e | e
    · omega
    · cases e
    · cases e))
  have c4 : Below w.heap.size w w4 := c3.trans (k4.below (by omega) (fun i hi e => by omega))
  have c5 : Below w.heap.size w w5 := c4.trans (b5.mono (by omega))
  have c6 : Below w.heap.size w w6 := c5.trans (b6.mono (by omega))
  have c7 : Below w.heap.size w (w6.alloc (.cells V T)) := c6.alloc (by omega) _
  have a2' : Blk w3 w1.heap.size 228 (refDev m) := a2.keeps k3.keeps (fun e => by
    rcases e with e | e | e
    · omega
    · cases e
    · cases e)
  have a4 : DevAt w4 w.heap.size m 2 sy nw := a3.keeps k4 (fun k hk e => by
    subst e
    rcases hk with e | e | e
    · omega
    · obtain ⟨cs, hr⟩ := a3.srow
      exact own_ne hr a2' (by decide) _ e rfl
    · obtain ⟨cs, hr⟩ := a3.nrow
      exact own_ne hr a2' (by decide) _ e rfl)
  have b46 : Below w4.heap.size w4 (w6.alloc (.cells V T)) := (b5.trans (b6.mono (by omega))).alloc (by omega) _
  have a6 : DevAt (w6.alloc (.cells V T)) w.heap.size m 2 sy nw := a4.keeps (S := fun _ => False) (Keeps.of_below b46) fun _ _ h => h
  refine ⟨w.heap.size, w1.heap.size, w4.heap.size, w6.heap.size, sy, nw, rfl, a6, (a5.below' b6).alloc _, Nat.le_refl _, by omega, fun k e => ?_, fun k e => ?_, c7⟩
  · rcases k3.sy k e with h | h
    · cases h
    · omega
  · rcases k3.nw k e with h | h
    · cases h
    · omega

set_option maxHeartbeats 2000000 in
set_option maxRecDepth 100000 in
theorem base_any {m : Nat} (hm : 4 ≤ m ∧ m ≤ 3000) (w : World) : Calls Tryz.prog 34 #[.int .i64 (m : Int), .int .i64 2, .slice none 0 0] w (BaseP m w) := by
  go_enter Tryz.func34, Tryz.ntmps34
  go_wp2_with (fail)
  go_must (refine (devNew3 hm w).mono ?_)
  rintro e w1 ⟨rfl, a1, b1, z1⟩
  have A1 := Lib.hid a1
  have B1 := Lib.hid b1
  have Z1 := Lib.hid z1
  clear a1 b1 z1
  go_wp2_with (fail)
  go_must (refine (refNew3 hm w1).mono ?_)
  rintro e w2 ⟨rfl, a2, b2, z2⟩
  have a1' : DevAt w2 w.heap.size m 0 (.slice none 0 0) (.slice none 0 0) := A1.out.keeps (S := fun _ => False) (Keeps.of_below b2) fun _ _ h => h
  have A2 := Lib.hid a2
  have B2 := Lib.hid b2
  have Z2 := Lib.hid z2
  have hG := Lib.hid (devTo_any w.heap.size m 0 2 _ _ w2 a1' (by omega) (by omega))
  clear a2 b2 z2 a1'
  go_wp2_with (fail)
  go_must (refine hG.out.mono ?_)
  rintro e w3 ⟨rfl, sy, nw, a3, k3⟩
  have hR := Lib.hid (refGrow_any hm (A2.out.keeps k3.keeps (fun e => by
    have := Z1.out
    rcases e with e | e | e
    · omega
    · cases e
    · cases e)))
  have A3 := Lib.hid a3
  have K3 := Lib.hid k3
  clear a3 k3 hG
  go_wp2_with (fail)
  go_must (refine hR.out.mono ?_)
  rintro e w4 ⟨rfl, k4⟩
  have K4 := Lib.hid k4
  clear k4 hR
  go_wp2_with (fail)
  go_must (refine (freeNew3 w4).mono ?_)
  rintro e w5 ⟨rfl, a5, b5, z5⟩
  have A5 := Lib.hid a5
  have B5 := Lib.hid b5
  clear a5 b5 z5
  go_wp2_with (fail)
  go_must (refine (refSorted_nil w5).mono ?_)
  rintro e w6 ⟨rfl, b6⟩
  have B6 := Lib.hid b6
  clear b6
  go_wp2_with (fail)
  refine bodyPost_ret (v := .tuple #[ptrV w.heap.size, ptrV w1.heap.size, ptrV w4.heap.size, ptrV w6.heap.size, .bool true]) (by simp [results, Tryz.results34, go_sem]) rfl ?_
  exact base_end A1.out B1.out Z1.out B2.out Z2.out A2.out A3.out K3.out K4.out A5.out B5.out B6.out

def TNewP (m p : Nat) (c : Pc) (w : World) (e : Ending) (w' : World) : Prop :=
  ∃ root c', e = .returned (.tuple #[.int .i64 root, .int .i64 0]) ∧ PgOk w' p c' m (updS (fun _ => none) root (some ⟨2, 0, []⟩)) 1 ∧ PgK p c c' w w'

theorem treeNew_any {m : Nat} (hm : 4 ≤ m ∧ m ≤ 3000) (p : Nat) (c : Pc) (w : World) (h : PgOk w p c m (fun _ => none) 0) : Calls Tryz.prog 35 #[ptrV p] w (TNewP m p c w) := by
  have hM := Lib.hid (make_any ⟨2, 0, []⟩ w h (by simp [Pg.ok]) (by omega))
  clear h
  go_enter Tryz.func35, Tryz.ntmps35
  go_wp2_with (fail)
  go_must (refine hM.out.mono ?_)
  rintro e w1 ⟨root, c', rfl, _, _, _, hp, hk⟩
  have HP := Lib.hid hp
  have HK := Lib.hid hk
  clear hp hk
  go_wp2_with (fail)
  go_ret2
  exact ⟨root, c', rfl, HP.out, HK.out⟩

def BeginM (m : Nat) (w : World) (e : Ending) (w' : World) : Prop :=
  ∃ d f p c root, e = .returned (.tuple #[ptrV d, ptrV f, ptrV p, .int .i64 root, .bool true]) ∧ PgOk w' p c m (updS (fun _ => none) root (some ⟨2, 0, []⟩)) 1 ∧ (∀ k, c.S p k → w.heap.size ≤ k) ∧ Below w.heap.size w w'

set_option maxHeartbeats 2000000 in
theorem begin_m {m : Nat} (hm : 4 ≤ m ∧ m ≤ 3000) (w : World) : Calls Tryz.prog 10 #[.int .i64 (m : Int)] w (BeginM m w) := by
  go_enter Tryz.func10, Tryz.ntmps10
  go_wp2_with (fail)
  go_must (refine (base_any hm w).mono ?_)
  rintro e w1 ⟨d, g, f, h, sy, nw, rfl, hd, hf, d1, d2, d3, d4, b1⟩
  have hN := Lib.hid (pagerNew_any hm d f sy nw w1 hd hf)
  have B1 := Lib.hid b1
  clear hd hf b1
  go_wp2_with (fail)
  go_must (refine hN.out.mono ?_)
  rintro e w2 ⟨p, c, rfl, hp, hs, b2⟩
  have hT := Lib.hid (treeNew_any hm p c w2 hp)
  have hz1 := B1.out.size
  have HS := Lib.hid (show ∀ k, c.S p k → w.heap.size ≤ k from fun k hk => by
    rcases hs k hk with h | h | h | h | h
    · omega
    · omega
    · exact d3 k h
    · exact d4 k h
    · omega)
  have B2 := Lib.hid b2
  clear hp hs b2 hN
  go_wp2_with (fail)
  go_must (refine hT.out.mono ?_)
  rintro e w3 ⟨root, c', rfl, hp, hk⟩
  have HP := Lib.hid hp
  have HK := Lib.hid hk
  clear hp hk hT
  go_wp2_with (fail)
  refine bodyPost_ret (v := .tuple #[ptrV d, ptrV f, ptrV p, .int .i64 root, .bool true]) (by simp [results, Tryz.results10, go_sem]) rfl ?_
  have hz2 := B2.out.size
  refine ⟨d, f, p, c', root, rfl, HP.out, fun k hk => ?_, ?_⟩
  · rcases HK.out.sub k hk with h | h
    · exact HS.out k h
    · omega
  · exact (B1.out.trans (B2.out.mono hz1)).trans (HK.out.keeps.below (by omega) fun i hi e => by have := HS.out i e; omega)

abbrev BeginP (w : World) (e : Ending) (w' : World) : Prop := BeginM 3000 w e w'
theorem begin_any (w : World) : Calls Tryz.prog 10 #[.int .i64 3000] w (BeginP w) := begin_m (m := 3000) (by omega) w
end Go.Ev

set_option linter.unusedVariables false
set_option linter.unusedSimpArgs false
namespace Go.Ev
open Go.Proofs Go.RowKit

theorem good_any (s : Bytes) (w : World) (hs : s.length ≤ 9223372036854775807) : Calls Tryz.prog 48 #[strV s] w fun e w' => e = .returned (.bool (decide (1 ≤ s.length) && decide (s.length ≤ 40))) ∧ w = w' := by
  obtain ⟨n, hn⟩ : ∃ n, s.length = n := ⟨_, rfl⟩
  rw [hn]
  by_cases h1 : 1 ≤ n
  · have h1' : (1 : Int) ≤ (n : Int) := by omega
    by_cases h40 : n ≤ 40
    · have h40' : (n : Int) ≤ 40 := by omega
      go_enter Tryz.func48, Tryz.ntmps48
      go_wp2
      go_ret
      exact ⟨by simp [h1, h40], rfl⟩
    · have h40' : ¬ (n : Int) ≤ 40 := by omega
      go_enter Tryz.func48, Tryz.ntmps48
      go_wp2
      go_ret
      exact ⟨by simp [h1, h40], rfl⟩
  · have h1' : ¬ (1 : Int) ≤ (n : Int) := by omega
    go_enter Tryz.func48, Tryz.ntmps48
    go_wp2
    go_ret
    exact ⟨by simp [h1], rfl⟩

theorem drop_cons_of {a : Bytes} {i : Nat} (h : i < a.length) : a.drop i = a[i] :: a.drop (i + 1) := List.drop_eq_getElem_cons h

set_option maxHeartbeats 1000000 in
theorem less_any (a b : Bytes) (w : World) (ha : a.length ≤ 100000) (hb : b.length ≤ 100000) : Calls Tryz.prog 65 #[strV a, strV b] w fun e w' => e = .returned (.bool (lessB a b)) ∧ Below w.heap.size w w' := by
  obtain ⟨na, hna⟩ : ∃ n, a.length = n := ⟨_, rfl⟩
  obtain ⟨nb, hnb⟩ : ∃ n, b.length = n := ⟨_, rfl⟩
  go_enter Tryz.func65, Tryz.ntmps65
  go_wp2
  go_loopg [5] na (fun gk s5 wr => ∃ i : Nat, s5 = .int .i64 (i : Int) ∧ i + gk = na ∧ i ≤ nb ∧ Hid (lessB a b = lessB (a.drop i) (b.drop i)) ∧ Below w.heap.size w wr)
  case atStart => exact ⟨0, rfl, by omega, by omega, rfl, Below.refl _ _⟩
  case round =>
    obtain ⟨i, rfl, hi, hib, hl, hbw⟩ := hrel
    by_cases h1 : i < na
    · by_cases h2 : i < nb
      · have h1' : (i : Int) < (na : Int) := by omega
        have h2' : (i : Int) < (nb : Int) := by omega
        have ea := drop_cons_of (a := a) (i := i) (by omega)
        have eb := drop_cons_of (a := b) (i := i) (by omega)
        have h0 : (0 : Int) ≤ (i : Int) := by omega
        have hw : IntKind.i64.wrap ((i : Int) + 1) = (i : Int) + 1 := IntWalk.i64_in _ (by omega)
        obtain ⟨x, hx⟩ : ∃ x, a[i]'(by omega) = x := ⟨_, rfl⟩
        obtain ⟨y, hy⟩ : ∃ y, b[i]'(by omega) = y := ⟨_, rfl⟩
        rw [hx] at ea
        rw [hy] at eb
        have gx : ({ data := List.toArray a } : ByteArray)[i]'(by show i < a.length; omega) = x := hx
        have gy : ({ data := List.toArray b } : ByteArray)[i]'(by show i < b.length; omega) = y := hy
        have HL := hl.out
        rw [ea, eb] at HL
        clear ea eb hl hx hy ha hb
        by_cases hxy : x = y
        · subst hxy
          have hc : lessB (x :: a.drop (i + 1)) (x :: b.drop (i + 1)) = lessB (a.drop (i + 1)) (b.drop (i + 1)) := by simp [lessB, Op.bytesLess]
          rw [hc] at HL
          have HL := Lib.hid HL
          clear hc
          go_wp2_with (fail)
          refine wp_region_any (by kernel_rfl) ?_
          change wpAny _ _ _ _ _ _ _ (World.drew _)
          try simp only [Act.put, lT, l0, lS]
          refine tA 0 ?_; try simp only [Act.put, lT, l0, lS]
          refine tA 1 ?_; try simp only [Act.put, lT, l0, lS]
          refine tA 2 ?_; try simp only [Act.put, lT, l0, lS]
          refine tA 3 ?_; try simp only [Act.put, lT, l0, lS]
          refine tA 4 ?_; try simp only [Act.put, lT, l0, lS]
          refine tA 5 ?_; try simp only [Act.put, lT, l0, lS]
          refine tA 6 ?_; try simp only [Act.put, lT, l0, lS]
          refine wpAny_done (by kernel_rfl) ?_ _
          go_wp2_with (fail)
          go_roundg (gk - 1)
          case measure => omega
          case rel => exact ⟨i + 1, by simp, by omega, by omega, HL.out, hbw.drew⟩
        · have hb1 : (((x.toNat : Nat) : Int) != ((y.toNat : Nat) : Int)) = true := by
            simp only [bne_iff_ne, ne_eq]
            intro e
            exact hxy (UInt8.toNat_inj.1 (by omega))
          have HL := Lib.hid HL
          have HXY := Lib.hid hxy
          clear hxy
          go_wp2_with (fail)
          refine wp_region_any (by kernel_rfl) ?_
          change wpAny _ _ _ _ _ _ _ (World.drew _)
          try simp only [Act.put, lT, l0, lS]
          refine tA 0 ?_; try simp only [Act.put, lT, l0, lS]
          refine tA 1 ?_; try simp only [Act.put, lT, l0, lS]
          refine tA 2 ?_; try simp only [Act.put, lT, l0, lS]
          refine tA 3 ?_; try simp only [Act.put, lT, l0, lS]
          refine tA 4 ?_; try simp only [Act.put, lT, l0, lS]
          refine tA 5 ?_; try simp only [Act.put, lT, l0, lS]
          refine tA 6 ?_; try simp only [Act.put, lT, l0, lS]
          refine wpAny_done (by kernel_rfl) ?_ _
          go_wp2_with (fail)
          refine wp_region_any (by kernel_rfl) ?_
          change wpAny _ _ _ _ _ _ _ (World.drew _)
          try simp only [Act.put, lT, l0, lS]
          refine tA 0 ?_; try simp only [Act.put, lT, l0, lS]
          refine tA 1 ?_; try simp only [Act.put, lT, l0, lS]
          refine tA 2 ?_; try simp only [Act.put, lT, l0, lS]
          refine tA 3 ?_; try simp only [Act.put, lT, l0, lS]
          refine tA 4 ?_; try simp only [Act.put, lT, l0, lS]
          refine tA 5 ?_; try simp only [Act.put, lT, l0, lS]
          refine tA 6 ?_; try simp only [Act.put, lT, l0, lS]
          refine rd 7 (by kernel_rfl) rfl (fun K hK => ?_); go_simp; refine hK _ _ ?_; clear hK K
          refine wpAny_done (by kernel_rfl) ?_ _
          go_wp2_with (fail)
          go_ret
          refine ⟨?_, hbw.drew.drew⟩
          try rw [HL.out]
          simp [lessB, Op.bytesLess, HXY.out, UInt8.lt_iff_toNat_lt]
      · have h2' : ¬ (i : Int) < (nb : Int) := by omega
        have h1' : (i : Int) < (na : Int) := by omega
        have HL := hl.out
        have ed : b.drop i = [] := List.drop_of_length_le (by omega)
        have ec := drop_cons_of (a := a) (i := i) (by omega)
        rw [ed, ec] at HL
        have HL := Lib.hid HL
        clear ed ec hl ha hb
        go_wp2_with (fail)
        go_ret
        refine ⟨?_, hbw⟩
        try rw [HL.out]
        simp [lessB, Op.bytesLess]
        omega
    · have h1' : ¬ (i : Int) < (na : Int) := by omega
      have HL := hl.out
      have ed : a.drop i = [] := List.drop_of_length_le (by omega)
      rw [ed] at HL
      by_cases hnn : na < nb
      · have hnn' : (na : Int) < (nb : Int) := by omega
        have e1 : b.drop i ≠ [] := by intro e; rw [List.drop_eq_nil_iff] at e; omega
        have HL := Lib.hid HL
        have HE := Lib.hid e1
        clear ed hl ha hb e1
        go_wp2_with (fail)
        go_ret
        refine ⟨?_, hbw⟩
        try rw [HL.out]
        cases hd : b.drop i with
        | nil => exact absurd hd HE.out
        | cons u l => simp [lessB, Op.bytesLess]
      · have hnn' : ¬ (na : Int) < (nb : Int) := by omega
        have e1 : b.drop i = [] := List.drop_of_length_le (by omega)
        rw [e1] at HL
        have HL := Lib.hid HL
        clear ed hl ha hb e1
        go_wp2_with (fail)
        go_ret
        refine ⟨?_, hbw⟩
        try rw [HL.out]
        simp [lessB, Op.bytesLess]

-- pairs in a row

def pairCs (q : Pair) : List Value := [strV q.1, strV q.2]
def pairsCs : List Pair → List Value
  | [] => []
  | q :: l => pairCs q ++ pairsCs l
theorem pairsCs_len : ∀ l : List Pair, (pairsCs l).length = l.length * 2
  | [] => rfl
  | q :: l => by simp [pairsCs, pairCs, pairsCs_len l]; omega
theorem pairsCs_app : ∀ a b : List Pair, pairsCs (a ++ b) = pairsCs a ++ pairsCs b
  | [], _ => rfl
  | q :: a, b => by simp [pairsCs, pairsCs_app a b]
theorem pairsCs_take : ∀ (l : List Pair) (k : Nat), (pairsCs l).take (k * 2) = pairsCs (l.take k)
  | [], k => by simp [pairsCs]
  | q :: l, 0 => rfl
  | q :: l, k + 1 => by
    rw [show (k + 1) * 2 = k * 2 + 1 + 1 by omega]
    simp [pairsCs, pairCs, pairsCs_take l k]
theorem pairsCs_drop : ∀ (l : List Pair) (k : Nat), (pairsCs l).drop (k * 2) = pairsCs (l.drop k)
  | [], k => by simp [pairsCs]
  | q :: l, 0 => rfl
  | q :: l, k + 1 => by
    rw [show (k + 1) * 2 = k * 2 + 1 + 1 by omega]
    simp [pairsCs, pairCs, pairsCs_drop l k]
theorem pairsCs_one : ∀ l : List Pair, ∀ u ∈ pairsCs l, u.oneCell' = true
  | [], u, h => by simp [pairsCs] at h
  | q :: l, u, h => by
    simp only [pairsCs, pairCs, List.cons_append, List.nil_append, List.mem_cons] at h
    rcases h with rfl | rfl | h
    · rfl
    · rfl
    · exact pairsCs_one l u h
theorem pairsCs_at : ∀ (l : List Pair) (k : Nat) (hk : k < l.length), (pairsCs l)[k * 2]? = some (strV l[k].1) ∧ (pairsCs l)[k * 2 + 1]? = some (strV l[k].2)
  | q :: l, 0, _ => ⟨rfl, rfl⟩
  | q :: l, k + 1, h => by
    have ih := pairsCs_at l k (by simpa using h)
    rw [show (k + 1) * 2 = k * 2 + 2 by omega]
    simpa [pairsCs, pairCs] using ih

/-- How many stand ahead of a key; is it there? -/
def aheadP (k : Bytes) : List Pair → Nat
  | [] => 0
  | q :: l => if lessB q.1 k then aheadP k l + 1 else 0
def isAtP (k : Bytes) : List Pair → Bool
  | [] => false
  | q :: l => if lessB q.1 k then isAtP k l else q.1 == k

theorem aheadP_le (k : Bytes) : ∀ l : List Pair, aheadP k l ≤ l.length
  | [] => Nat.le_refl _
  | q :: l => by
    have := aheadP_le k l
    simp only [aheadP, List.length_cons]
    split <;> omega
theorem aheadP_drop (k : Bytes) {l : List Pair} {i : Nat} (h : i < l.length) : aheadP k (l.drop i) = if lessB l[i].1 k then aheadP k (l.drop (i + 1)) + 1 else 0 := by
  rw [List.drop_eq_getElem_cons h]
  rfl
theorem isAtP_eq (k : Bytes) : ∀ l : List Pair, isAtP k l = match l[aheadP k l]? with | some q => q.1 == k | none => false
  | [] => rfl
  | q :: l => by
    have ih := isAtP_eq k l
    simp only [isAtP, aheadP]
    split
    · rw [ih]; simp
    · simp
theorem insP_at (k v : Bytes) : ∀ l : List Pair, insP k v l = l.take (aheadP k l) ++ (k, v) :: l.drop (if isAtP k l then aheadP k l + 1 else aheadP k l)
  | [] => rfl
  | q :: l => by
    have ih := insP_at k v l
    simp only [insP, aheadP, isAtP]
    by_cases h1 : lessB q.1 k = true
    · simp only [h1, if_true]
      rw [ih]
      split <;> simp
    · by_cases h2 : lessB k q.1 = true
      · have : (q.1 == k) = false := by
          simp only [beq_eq_false_iff_ne, ne_eq]
          exact (lessB_ne h2).symm
        simp [h1, h2, this]
      · have : (q.1 == k) = true := by
          simp only [beq_iff_eq]
          rcases lessB_total q.1 k with h | h | h
          · exact absurd h h1
          · exact h
          · exact absurd h h2
        simp [h1, h2, this]

def FindP (key : Bytes) (t : List Pair) (w : World) (e : Ending) (w' : World) : Prop :=
  e = .returned (.tuple #[.int .i64 (aheadP key t : Int), .bool (isAtP key t)]) ∧ Below w.heap.size w w'

set_option maxHeartbeats 1000000 in
theorem findP_any (A : Option Addr) (n c : Nat) (t : List Pair) (key : Bytes) (w : World) (hv : Sl w 2 (.slice A n c) n (pairsCs t)) (hn : n ≤ 100000) (hk : key.length ≤ 100000) (hks : ∀ q ∈ t, q.1.length ≤ 100000) :
    Calls Tryz.prog 49 #[.slice A n c, strV key] w (FindP key t w) := by
  have hl : t.length = n := by
    obtain ⟨_, _, _, _, h1, _⟩ := hv
    rw [pairsCs_len] at h1
    omega
  subst hl
  go_enter Tryz.func49, Tryz.ntmps49
  go_wp2
  go_loopg [6] t.length (fun gk s6 wr => ∃ i : Nat, s6 = .int .i64 (i : Int) ∧ i + gk = t.length ∧ Hid (aheadP key t = i + aheadP key (t.drop i)) ∧ Below w.heap.size w wr)
  case atStart => exact ⟨0, rfl, by omega, by show _ = 0 + _; rw [Nat.zero_add]; rfl, Below.refl _ _⟩
  case round =>
    obtain ⟨i, rfl, hi, hl, hbw⟩ := hrel
    by_cases h1 : i < t.length
    · have h1' : (i : Int) < (t.length : Int) := by omega
      have h0 : (0 : Int) ≤ (i : Int) := by omega
      have hw : IntKind.i64.wrap ((i : Int) + 1) = (i : Int) + 1 := IntWalk.i64_in _ (by omega)
      obtain ⟨A', c', e0, _, _, hcl⟩ := hv.below hbw
      cases e0
      obtain ⟨blk, off, rfl, hbl, hcell⟩ := hcl (by omega)
      obtain ⟨p1, p2⟩ := pairsCs_at t i h1
      have x1 := hcell _ _ p1
      have x2 := hcell _ _ p2
      have HL := Lib.hid (less_any t[i].1 key wr (hks _ (List.getElem_mem ..)) hk)
      have hD := hl.out
      rw [aheadP_drop key h1] at hD
      have hQ := Lib.hid (isAtP_eq key t)
      cases hc : lessB t[i].1 key with
      | true =>
        rw [hc] at HL hD
        simp only [if_true] at hD
        have hD := Lib.hid hD
        clear hv hks hcell hl p1 p2 hcl
        go_wp2_with (fail)
        go_must (refine HL.out.mono ?_)
        rintro e w1 ⟨rfl, hb1⟩
        go_wp2_with (fail)
        go_roundg (gk - 1)
        case measure => omega
        case rel => exact ⟨i + 1, by simp, by omega, by show _ = _; rw [hD.out]; omega, hbw.trans (hb1.mono hbw.size)⟩
      | false =>
        rw [hc] at HL hD
        simp only [Bool.false_eq_true, if_false] at hD
        have hat : isAtP key t = (t[i].1 == key) := by
          rw [hQ.out, hD, Nat.add_zero, List.getElem?_eq_getElem h1]
        have x1' : ∀ W, Below wr.heap.size wr W → W.cell? ⟨blk, off + i * 2, none⟩ = some (strV t[i].1) := fun W hW => (hW.cell (p := ⟨blk, off + i * 2, none⟩) hbl).trans x1
        have hD := Lib.hid hD
        have HAT := Lib.hid hat
        have X1 := Lib.hid x1'
        clear hv hks hcell hl p1 p2 hcl hat x1'
        go_wp2_with (fail)
        go_must (refine HL.out.mono ?_)
        rintro e w1 ⟨rfl, hb1⟩
        have y1 := X1.out w1 hb1
        go_wp2_with (fail)
        refine wp_region_any (by kernel_rfl) ?_
        change wpAny _ _ _ _ _ _ _ (World.drew _)
        try simp only [Act.put, lT, l0, lS]
        refine tA 0 ?_; try simp only [Act.put, lT, l0, lS]
        refine tA 1 ?_; try simp only [Act.put, lT, l0, lS]
        refine tA 2 ?_; try simp only [Act.put, lT, l0, lS]
        refine tA 3 ?_; try simp only [Act.put, lT, l0, lS]
        refine tA 4 ?_; try simp only [Act.put, lT, l0, lS]
        refine tA 5 ?_; try simp only [Act.put, lT, l0, lS]
        refine tA 6 ?_; try simp only [Act.put, lT, l0, lS]
        refine tA 7 ?_; try simp only [Act.put, lT, l0, lS]
        refine tA 8 ?_; try simp only [Act.put, lT, l0, lS]
        refine tA 9 ?_; try simp only [Act.put, lT, l0, lS]
        try simp only [Act.put, lT, l0, lS]
        refine rA 10 (v := ?_) (hy := ?hy) ?_; case hy => (intro w hE; have q0 := hE.cell y1; go_simp; try with_reducible rfl)
        try simp only [Act.put, lT, l0, lS]
        try simp only [Act.put, lT, l0, lS]
        refine tA 11 ?_; try simp only [Act.put, lT, l0, lS]
        refine tA 12 ?_; try simp only [Act.put, lT, l0, lS]
        refine tA 13 ?_; try simp only [Act.put, lT, l0, lS]
        refine rd 14 (by kernel_rfl) rfl (fun K hK => ?_); go_simp; refine hK _ _ ?_; clear hK K
        refine rd 15 (by kernel_rfl) rfl (fun K hK => ?_); go_simp; refine hK _ _ ?_; clear hK K
        refine wpAny_done (by kernel_rfl) ?_ _
        go_wp2_with (fail)
        refine bodyPost_ret (v := .tuple #[.int .i64 (i : Int), .bool (t[i].1 == key)]) (by simp [results, Tryz.results49, go_sem]) rfl ?_
        exact ⟨by rw [hD.out, HAT.out]; simp, (hbw.trans (hb1.mono hbw.size)).drew⟩
    · have h1' : ¬ (i : Int) < (t.length : Int) := by omega
      have hii : i = t.length := by omega
      have hD := hl.out
      rw [hii, List.drop_length] at hD
      simp only [aheadP, Nat.add_zero] at hD
      have hat : isAtP key t = false := by rw [isAtP_eq, hD]; simp
      have hD := Lib.hid hD
      have HAT := Lib.hid hat
      have HII := Lib.hid hii
      clear hv hks hl hat hii
      go_wp2_with (fail)
      refine wp_region_any (by kernel_rfl) ?_
      change wpAny _ _ _ _ _ _ _ (World.drew _)
      try simp only [Act.put, lT, l0, lS]
      refine tA 0 ?_; try simp only [Act.put, lT, l0, lS]
      refine tA 1 ?_; try simp only [Act.put, lT, l0, lS]
      refine tA 2 ?_; try simp only [Act.put, lT, l0, lS]
      refine tA 3 ?_; try simp only [Act.put, lT, l0, lS]
      refine tA 4 ?_; try simp only [Act.put, lT, l0, lS]
      refine tA 5 ?_; try simp only [Act.put, lT, l0, lS]
      try simp only [Act.put, lT, l0, lS]
      refine sA 6 ?_; try simp only [Act.put, lT, l0, lS]
      refine sA 7 ?_; try simp only [Act.put, lT, l0, lS]
      refine sA 8 ?_; try simp only [Act.put, lT, l0, lS]
      refine sA 9 ?_; try simp only [Act.put, lT, l0, lS]
      refine sA 10 ?_; try simp only [Act.put, lT, l0, lS]
      refine sA 11 ?_; try simp only [Act.put, lT, l0, lS]
      refine sA 12 ?_; try simp only [Act.put, lT, l0, lS]
      try simp only [Act.put, lT, l0, lS]
      refine tA 13 ?_; try simp only [Act.put, lT, l0, lS]
      refine rd 14 (by kernel_rfl) rfl (fun K hK => ?_); go_simp; refine hK _ _ ?_; clear hK K
      refine rd 15 (by kernel_rfl) rfl (fun K hK => ?_); go_simp; refine hK _ _ ?_; clear hK K
      refine wpAny_done (by kernel_rfl) ?_ _
      go_wp2_with (fail)
      refine bodyPost_ret (v := .tuple #[.int .i64 (i : Int), .bool false]) (by simp [results, Tryz.results49, go_sem]) rfl ?_
      exact ⟨by rw [hD.out, HAT.out, HII.out], hbw.drew⟩
end Go.Ev

set_option linter.unusedVariables false
set_option linter.unusedSimpArgs false
namespace Go.Ev
open Go.Proofs Go.RowKit

theorem aheadP_appT {k : Bytes} : ∀ {a b : List Pair}, (∀ q ∈ a, lessB q.1 k = true) → aheadP k (a ++ b) = a.length + aheadP k b
  | [], b, _ => by simp
  | q :: a, b, h => by
    simp only [List.cons_append, aheadP, List.length_cons]
    rw [if_pos (h q (List.mem_cons_self ..)), aheadP_appT fun z hz => h z (List.mem_cons_of_mem _ hz)]
    omega
theorem aheadP_stopT {k : Bytes} : ∀ {a b : List Pair}, (∀ q ∈ b, lessB q.1 k = false) → aheadP k (a ++ b) = aheadP k a
  | [], [], _ => rfl
  | [], q :: b, h => by simp [aheadP, h q (List.mem_cons_self ..)]
  | q :: a, b, h => by
    simp only [List.cons_append, aheadP]
    rw [aheadP_stopT h]
theorem ahead_leafT {M : Store} {k : Bytes} : ∀ {l : List Item} {ps : List Pair} {ids : List Int}, LeafAt M l ps ids → ahead k l = aheadP k ps
  | [], _, _, ⟨h, _⟩ => by subst h; rfl
  | x :: l, _, _, ⟨v, ps', i1, i2, h1, h2, h3, h4⟩ => by
    subst h1
    simp only [ahead, aheadP]
    rw [ahead_leafT h4]
theorem ahead_zipT {M : Store} {all ps : List Pair} {id : Int} {lo : Bytes} {hi : Option Bytes} {off : Nat} {path : List (List Child × Nat)} {its : List Item} {i2 : List Int} {key : Bytes} (hz : Zip M 2 all 0 id lo hi ps off path) (hla : LeafAt M its ps i2) (hin : inR lo hi key) : aheadP key all = off + ahead key its := by
  obtain ⟨a, b, e1, e2, e3, e4⟩ := hz.pos
  rw [e1, aheadP_appT fun q hq => lessB_of_lt_le (e3 q hq) hin.1, e2, aheadP_stopT, ahead_leafT hla]
  intro q hq
  obtain ⟨u, hu, hl⟩ := e4 q hq
  cases hc : lessB q.1 key
  · rfl
  · have := lessB_trans hc (hin.2 u hu)
    rw [this] at hl
    cases hl

theorem rising_tailT {q : Pair} {l : List Pair} (h : Rising (q :: l)) : Rising l ∧ ∀ p ∈ l, lessB q.1 p.1 = true := by
  have := Rising.append.1 (show Rising ([q] ++ l) from h)
  exact ⟨this.2.1, fun p hp => this.2.2 q (by simp) p hp⟩

theorem rising_splitT {all : List Pair} {i : Nat} {q : Pair} (hr : Rising all) (hq : all[i]? = some q) : (∀ p ∈ all.take i, lessB p.1 q.1 = true) ∧ ∀ p ∈ all.drop (i + 1), lessB q.1 p.1 = true := by
  obtain ⟨hlt, he⟩ := List.getElem?_eq_some_iff.1 hq
  have e : all = all.take i ++ q :: all.drop (i + 1) := by
    rw [← he, ← List.drop_eq_getElem_cons hlt, List.take_append_drop]
  rw [e, Rising.append] at hr
  exact ⟨fun p hp => hr.2.2 p hp q (List.mem_cons_self ..), (rising_tailT hr.2.1).2⟩

/-- A pair stands where its key is sought. -/
theorem ahead_atT {all : List Pair} {i : Nat} {q : Pair} (hr : Rising all) (hq : all[i]? = some q) : aheadP q.1 all = i ∧ isAtP q.1 all = true := by
  obtain ⟨hlt, he⟩ := List.getElem?_eq_some_iff.1 hq
  obtain ⟨h1, h2⟩ := rising_splitT hr hq
  have e : all = all.take i ++ q :: all.drop (i + 1) := by
    rw [← he, ← List.drop_eq_getElem_cons hlt, List.take_append_drop]
  have ha : aheadP q.1 all = i := by
    rw [e, aheadP_appT h1, List.length_take, Nat.min_eq_left (Nat.le_of_lt hlt)]
    simp [aheadP, lessB_irrefl]
  refine ⟨ha, ?_⟩
  rw [isAtP_eq, ha, hq]
  simp
end Go.Ev

set_option linter.unusedVariables false
set_option linter.unusedSimpArgs false
namespace Go.Ev

theorem Trail.zip {M : Store} {d : Nat} {all : List Pair} {key : Bytes} {id lid : Int} {P : List (Int × Nat × List Child)} {items : List Item} (ht : Trail M key id P lid items) :
    ∀ {k : Nat} {lo : Bytes} {hi : Option Bytes} {ps : List Pair} {off : Nat} {path : List (List Child × Nat)}, Zip M d all k id lo hi ps off path → inR lo hi key →
      ∃ lo' hi' ps' off' path' i2, Zip M d all 0 lid lo' hi' ps' off' path' ∧ inR lo' hi' key ∧ LeafAt M items ps' i2 ∧ riseI items = true ∧ (layI items).length ≤ 240 := by
  induction ht with
  | leaf h1 h2 h3 =>
    intro k lo hi ps off path hz hin
    cases k with
    | zero =>
      obtain ⟨⟨ids, its, i2, q1, q2, q3, q4, _, _⟩, _⟩ := hz.tree
      rw [h1] at q1
      simp only [Option.some.injEq, Pg.mk.injEq, true_and] at q1
      have := layI_inj h2 q2 h3 q1
      subst this
      exact ⟨lo, hi, ps, off, path, i2, hz, hin, q4, h2, h3⟩
    | succ k =>
      obtain ⟨L, q1, _⟩ := hz.child
      rw [h1] at q1
      simp at q1
  | branch h1 h2 h3 h4 _ ih =>
    intro k lo hi ps off path hz hin
    cases k with
    | zero =>
      obtain ⟨⟨ids, its, i2, q1, _⟩, _⟩ := hz.tree
      rw [h1] at q1
      simp at q1
    | succ k =>
      obtain ⟨L', q1, q2, q3, _, q5⟩ := hz.child
      rw [h1] at q1
      simp only [Option.some.injEq, Pg.mk.injEq, true_and] at q1
      have := layC_inj h2 q2 h3 q1
      subst this
      obtain ⟨lo', hi', ps', off', hz', _, _, hk⟩ := q5 _ _ h4
      exact ih hz' (hk _ hin rfl)

/-- What the leaf says of a key, and what all pairs say. -/
theorem leaf_find {M : Store} {all ps : List Pair} {lid : Int} {lo : Bytes} {hi : Option Bytes} {off : Nat} {path : List (List Child × Nat)} {items : List Item} {i2 : List Int} {key : Bytes} (hz : Zip M 2 all 0 lid lo hi ps off path) (hla : LeafAt M items ps i2) (hin : inR lo hi key) :
    isAtP key all = isAt key items ∧ ∀ (h : ahead key items < items.length), isAt key items = true → ∃ v ids, all[aheadP key all]? = some (key, v) ∧ ValAt M items[ahead key items] v ids := by
  have ha := ahead_zipT hz hla hin
  obtain ⟨a, b, e1, e2, e3, e4⟩ := hz.pos
  have hlen := hla.item.1
  have hat : ∀ (h : ahead key items < items.length), ∃ v ids, all[aheadP key all]? = some (items[ahead key items].key, v) ∧ ValAt M items[ahead key items] v ids := by
    intro h
    obtain ⟨hkey, ids, hval⟩ := hla.item.2 (ahead key items) h (by omega)
    refine ⟨_, ids, ?_, hval⟩
    rw [ha, e1, List.getElem?_append_right (by omega), e2, Nat.add_sub_cancel_left, List.getElem?_append_left (by omega), List.getElem?_eq_getElem (by omega), hkey]
  refine ⟨?_, fun h hi => ?_⟩
  · rw [isAtP_eq]
    by_cases h : ahead key items < items.length
    · obtain ⟨v, ids, h1, _⟩ := hat h
      rw [h1]
      cases hc : isAt key items with
      | true =>
        obtain ⟨x, hx, hk⟩ := isAt_iff.1 hc
        rw [List.getElem?_eq_getElem h, Option.some.injEq] at hx
        simp [hx, hk]
      | false =>
        have : ¬ items[ahead key items].key = key := fun e => by
          have := isAt_iff.2 ⟨_, List.getElem?_eq_getElem h, e⟩
          rw [hc] at this
          cases this
        simpa using this
    · have hle := ahead_le key items
      have hc : isAt key items = false := by
        cases hc : isAt key items with
        | false => rfl
        | true =>
          obtain ⟨x, hx, _⟩ := isAt_iff.1 hc
          exact absurd (List.getElem?_eq_some_iff.1 hx).1 h
      rw [hc]
      cases hq : all[aheadP key all]? with
      | none => rfl
      | some q =>
        rw [ha, e1, List.getElem?_append_right (by omega), e2, Nat.add_sub_cancel_left, List.getElem?_append_right (by omega)] at hq
        obtain ⟨u, hu, hl⟩ := e4 q (List.mem_of_getElem? hq)
        have h2 := hin.2 u hu
        simp only [beq_eq_false_iff_ne, ne_eq]
        intro e
        rw [e, h2] at hl
        cases hl
  · obtain ⟨v, ids, h1, h2⟩ := hat h
    obtain ⟨x, hx, hk⟩ := isAt_iff.1 hi
    rw [List.getElem?_eq_getElem h, Option.some.injEq] at hx
    rw [hx, hk] at h1
    exact ⟨v, ids, h1, h2⟩
end Go.Ev
