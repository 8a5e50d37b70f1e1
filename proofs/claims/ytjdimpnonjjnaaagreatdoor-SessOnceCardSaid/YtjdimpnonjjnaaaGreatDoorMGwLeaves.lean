/-
  Texts of this claim.
-/
import Derived.Test.YtjdimpnonjjnaaaGreatDoorMGwWork
set_option linter.unusedVariables false
set_option linter.unusedSimpArgs false
set_option maxHeartbeats 2000000
set_option maxRecDepth 100000
namespace Go.Ev
open Go.Proofs Go.RowKit
def dropAll (M : Store) (l : List Int) : Store := l.foldl (fun M i => updS M i none) M
theorem dropAll_snoc (M : Store) (l : List Int) (i : Int) : dropAll M (l ++ [i]) = updS (dropAll M l) i none := by simp [dropAll]
theorem dropAll_at (M : Store) : ∀ (l : List Int) (i : Int), dropAll M l i = if i ∈ l then none else M i := by
 intro l
 induction l generalizing M with
 | nil => intro i; rfl
 | cons a l ih =>
  intro i
  show dropAll (updS M a none) l i = _
  rw [ih, updS]
  by_cases h1 : i ∈ l
  ·simp [h1]
  ·by_cases h2 : i = a
   ·simp [h1, h2]
   ·simp [h1, h2]
def EndP (p : Nat) (c : Pc) (most : Nat) (M : Store) (cnt : Nat) (l : List Int) (w : World) (e : Ending) (w' : World) : Prop :=
 e = .returned (.int .i64 0) ∧ ∃ c', PgOk w' p c' most (dropAll M l) (cnt - l.length) ∧ PgK p c c' w w'
section
variable {p most cnt : Nat} {x : Wc} {M : Store} {made dropped : List Int} {w w' : World}
theorem end_ok (h : WkOk w p x most M cnt made dropped) (hn : dropped.Nodup) (hM : ∀ i ∈ dropped, (M i).isSome = true) (hl : dropped.length ≤ 100000) :
  Calls Tryz.prog 64 #[ptrV x.b, .int .i64 0] w (EndP p x.c most M cnt dropped w) := by
 obtain ⟨c, b, mv, dv⟩ := x
 have hdr := h.dr
 simp only at hdr
 obtain ⟨A, cc, rfl, _⟩ := Sl.of_own hdr
 clear hdr
 have g0 : w.cell? ⟨b, 0, none⟩ = some (ptrV p) := h.blk.cell 0
 have g2 : w.cell? ⟨b, 2, none⟩ = some (.slice A dropped.length cc) := h.blk.cell 2
 have HN := Hdz hn
 have HM := Hdz hM
 clear hn hM
 go_enter Tryz.func64, Tryz.ntmps64
 go_wp2_with (fail)
 go_loopg [20] dropped.length (fun gk s20 wr => ∃ (done rest : List Int) (c1 : Pc), s20 = .int .i64 done.length ∧ rest.length ≤ gk ∧ Hid (dropped = done ++ rest) ∧ WkOk wr p ⟨c1, b, mv, .slice A dropped.length cc⟩ most (dropAll M done) (cnt - done.length) made dropped ∧ Hid (PgK p c c1 w wr))
 case atStart => exact ⟨[], dropped, c, rfl, Nat.le_refl _, rfl, h, PgK.refl _ _ _⟩
 case round =>
  obtain ⟨done, rest, c1, rfl, hg, hD, hW, hK⟩ := hrel
  have hlen : dropped.length = done.length + rest.length := by rw [hD.out, List.length_append]
  cases rest with
  | nil =>
   have hdd : Hid (done = dropped) := by show _ = _; rw [hD.out, List.append_nil]
   have hln : done.length = dropped.length := by rw [hdd.out]
   have HW := Hdz hW.pg
   have hge : ¬ (done.length : Int) < (dropped.length : Int) := by omega
   clear hW hD hlen hg
   go_wp2_with (fail)
   go_ret
   refine ⟨rfl, c1, ?_, hK.out⟩
   have := HW.out
   rw [hdd.out] at this
   exact this
  | cons y r =>
   have hlt : (done.length : Int) < (dropped.length : Int) := by rw [hlen]; simp; omega
   have hlt2 : done.length < dropped.length := by omega
   have hge0 : (0 : Int) ≤ (done.length : Int) := by omega
   have g0r : wr.cell? ⟨b, 0, none⟩ = some (ptrV p) := hW.blk.cell 0
   obtain ⟨A', c', e0, _, _, hcl⟩ := Sl.of_own hW.dr
   cases e0
   obtain ⟨blk, off, rfl, hbl, hcell⟩ := hcl (by omega)
   have hyv : wr.cell? ⟨blk, off + done.length, none⟩ = some (.int .i64 y) := hcell done.length _ (by rw [hD.out]; simp [intsV])
   have hy : (dropAll M done y).isSome = true := by
    rw [dropAll_at, if_neg]
    ·exact HM.out y (by rw [hD.out]; simp)
    ·intro hm
     have := HN.out
     rw [hD.out, List.nodup_append] at this
     exact this.2.2 y hm y (List.mem_cons_self ..) rfl
   obtain ⟨pg, hpg⟩ := Option.isSome_iff_exists.1 hy
   have HDr := Hdz (drop_any y pg wr hW.pg hpg)
   have hD2 : Hid (dropped = (done ++ [y]) ++ r) := by show _ = _; rw [hD.out]; simp
   have hrg : r.length < gk := by simp at hg; omega
   have HW := Hdz hW
   clear hcl hcell hpg hy hD hlen hW
   go_wp2_with (fail)
   go_must (refine HDr.out.mono ?_)
   rintro e w1 ⟨rfl, c2, hp2, hK2⟩
   have HW2 := Hdz (HW.out.pager hp2 hK2)
   have HK2 := Hdz (hK.out.trans hK2)
   clear hp2 hK2
   go_wp2_with (fail)
   go_roundg r.length
   case measure => omega
   case rel => exact ⟨done ++ [y], r, c2, by simp, Nat.le_refl _, hD2, by have := HW2.out; rw [dropAll_snoc, List.length_append]; rwa [Nat.sub_sub] at this, HK2⟩
end
def LeafP1 (p : Nat) (x : Wc) (most : Nat) (M : Store) (cnt : Nat) (made dropped : List Int) (l : List Item) (w : World) (e : Ending) (w' : World) : Prop :=
 ∃ id x' v, e = .returned (.tuple #[v, .int .i64 0]) ∧ M id = none ∧ 2 ≤ id ∧ id ≤ 100000 ∧ OwnsC w' w.heap.size v [⟨[], id⟩] ∧ (∀ k, v.ownBlock = some k → ¬ x'.S p k) ∧
  WkOk w' p x' most (updS M id (some ⟨2, 0, layI l⟩)) (cnt + 1) (made ++ [id]) dropped ∧ WkK p x x' w w'
theorem putI_fit {l : List Item} (hr : riseI l = true) (hs : (layI l).length ≤ 240) : putI l = (layI l, 0) := by
 unfold putI
 simp [hr]
 omega
theorem own_child1 (w : World) (b : Bytes) (id : Int) : OwnsC (w.alloc (.cells #[strV b, .int .i64 id] 186)) w.heap.size (.slice (some ⟨w.heap.size, 0, none⟩) 1 1) [⟨b, id⟩] :=
 own_of (heap_alloc_new w _) (Nat.le_refl _) (Nat.le_refl _) (by unfold maxLen; omega) rfl rfl (fun j hj => by
  match j with
  | 0 => rfl
  | 1 => rfl
  | j + 2 => omega)
section
variable {p most cnt : Nat} {x : Wc} {M : Store} {made dropped : List Int} {w w' : World}
theorem leaves1_ok (A : Option Addr) (n c : Nat) (l : List Item) (h : WkOk w p x most M cnt made dropped) (hv : Sl w 4 (.slice A n c) n (itemsCs l)) (ho : ItemsOk l) (hr : riseI l = true) (hs : (layI l).length ≤ 240) (hroom : cnt + 3 ≤ most) (hmd : made.length ≤ 100000) :
  Calls Tryz.prog 63 #[ptrV x.b, .slice A n c] w (LeafP1 p x most M cnt made dropped l w) := by
 have hP := putI_any A n c l w hv ho
 unfold PutPost at hP
 rw [putI_fit hr hs] at hP
 have HP := Hdz hP
 have HPg := Hdz (fun (W : World) (hW : WkOk W p x most M cnt made dropped) => page_any ⟨2, 0, layI l⟩ hW ⟨by simp, by simp, by simp, by simp, hs⟩ rfl hroom hmd)
 have HH := Hdz h
 clear hP h hv ho hr
 go_enter Tryz.func63, Tryz.ntmps63
 go_wp2_with (fail)
 go_must (refine HP.out.mono ?_)
 rintro e w1 ⟨rfl, hb1⟩
 have HH1 := Hdz (HH.out.below hb1)
 go_wp2_with (fail)
 go_must (refine (HPg.out w1 HH1.out).mono ?_)
 rintro e w2 ⟨id, x', rfl, hid, hid2, hid3, hW, hK⟩
 have HE : Hid (LeafP1 p x most M cnt made dropped l w (.returned (.tuple #[.slice (some ⟨w2.heap.size, 0, none⟩) 1 1, .int .i64 0])) (w2.alloc (.cells #[strV [], .int .i64 id] 186))) :=
  ⟨id, x', _, rfl, hid, hid2, hid3, own_base (own_child1 w2 [] id) (by have := hb1.size; have := hK.keeps.size; omega), fun k hk hs => by
   simp only [Value.ownBlock, Option.some.injEq] at hk
   have := hW.lt k hs
   omega, hW.alloc _, ((WkK.of_below hb1).trans hK).trans (WkK.of_below ((Below.refl _ _).alloc (Nat.le_refl _) _))⟩
 clear hW hK
 go_wp2_with (fail)
 refine bodyPost_ret (v := .tuple #[.slice (some ⟨w2.heap.size, 0, none⟩) 1 1, .int .i64 0]) (by simp [results, Tryz.results63, go_sem]) rfl ?_
 exact HE.out
theorem WkK.fresh {S : Nat → Prop} {x' : Wc} {w'' : World} (h : WkK p x x' w w') (hk : Keeps S w' w'') (hs : ∀ k, S k → w.heap.size ≤ k) : WkK p x x' w w'' :=
 ⟨h.keeps.trans hk fun i hi hh => by have := hs i hh; omega, h.sub, h.same, h.mb, h.db, h.wb⟩
theorem putI_long {l : List Item} (hr : riseI l = true) (hs : 240 < (layI l).length) : putI l = ([], 2) := by
 unfold putI
 simp [hr, hs]
def LeafP2 (p : Nat) (x : Wc) (most : Nat) (M : Store) (cnt : Nat) (made dropped : List Int) (a b : List Item) (k : Bytes) (w : World) (e : Ending) (w' : World) : Prop :=
 ∃ i1 i2 x' v, e = .returned (.tuple #[v, .int .i64 0]) ∧ M i1 = none ∧ 2 ≤ i1 ∧ i1 ≤ 100000 ∧ updS M i1 (some ⟨2, 0, layI a⟩) i2 = none ∧ 2 ≤ i2 ∧ i2 ≤ 100000 ∧ OwnsC w' w.heap.size v [⟨[], i1⟩, ⟨k, i2⟩] ∧ (∀ k, v.ownBlock = some k → ¬ x'.S p k) ∧
  WkOk w' p x' most (updS (updS M i1 (some ⟨2, 0, layI a⟩)) i2 (some ⟨2, 0, layI b⟩)) (cnt + 2) (made ++ [i1, i2]) dropped ∧ WkK p x x' w w'
theorem leaves2_ok (A : Option Addr) (n c : Nat) (l a b : List Item) (y : Item) (r : List Item) (h : WkOk w p x most M cnt made dropped) (hv : Sl w 4 (.slice A n c) n (itemsCs l)) (ho : ItemsOk l) (hn : n ≤ 90000) (hr : riseI l = true) (hs : 240 < (layI l).length)
  (hsp : splitI l = (a, b)) (hb : b = y :: r) (hra : riseI a = true) (hrb : riseI b = true) (hoa : ItemsOk a) (hob : ItemsOk b) (hsa : (layI a).length ≤ 240) (hsb : (layI b).length ≤ 240) (hroom : cnt + 4 ≤ most) (hmd : made.length + 1 ≤ 100000) :
  Calls Tryz.prog 63 #[ptrV x.b, .slice A n c] w (LeafP2 p x most M cnt made dropped a b y.key w) := by
 obtain ⟨i0, hi, hz0, hz1, hz2⟩ := info_parts infoC
 have hP := putI_any A n c l w hv ho
 unfold PutPost at hP
 rw [putI_long hr hs] at hP
 have HP := Hdz hP
 have HS : Hid (∀ W, Below w.heap.size w W → Calls Tryz.prog 109 #[.slice A n c] W (SplitPost l W)) := fun W hW => splitI_any A n c l W (hv.below hW) ho hn
 have HL1 : Hid (∀ (W : World) (A1 : Option Addr) (na c1 : Nat), WkOk W p x most M cnt made dropped → Sl W 4 (.slice A1 na c1) na (itemsCs a) → Calls Tryz.prog 63 #[ptrV x.b, .slice A1 na c1] W (LeafP1 p x most M cnt made dropped a W)) :=
  fun W A1 na c1 q1 q2 => leaves1_ok A1 na c1 a q1 q2 hoa hra hsa (by omega) (by omega)
 have HL2 : Hid (∀ (W : World) (A1 : Option Addr) (na c1 : Nat) (x1 : Wc) (M1 : Store) (made1 : List Int), made1.length = made.length + 1 → WkOk W p x1 most M1 (cnt + 1) made1 dropped → Sl W 4 (.slice A1 na c1) na (itemsCs b) → Calls Tryz.prog 63 #[ptrV x1.b, .slice A1 na c1] W (LeafP1 p x1 most M1 (cnt + 1) made1 dropped b W)) :=
  fun W A1 na c1 x1 M1 made1 q0 q1 q2 => leaves1_ok A1 na c1 b q1 q2 hob hrb hsb (by omega) (by omega)
 have HH := Hdz h
 have HSP := Hdz hsp
 have HBY := Hdz hb
 clear hP h hv ho hr hsp hb hs hra hrb hoa hob hsa hsb hn
 go_enter Tryz.func63, Tryz.ntmps63
 go_wp2_with (fail)
 go_must (refine HP.out.mono ?_)
 rintro e w1 ⟨rfl, hb1⟩
 go_wp2_with (fail)
 go_must (refine (HS.out w1 hb1).mono ?_)
 rintro e w2 ⟨v1, v2, rfl, o1, o2, hb2⟩
 rw [HSP.out] at o1 o2
 simp only at o1 o2
 obtain ⟨na, hna⟩ := nmz (a.length)
 obtain ⟨nb, hnb⟩ := nmz (b.length)
 rw [hna] at o1
 rw [hnb] at o2
 obtain ⟨A1, c1, rfl, _⟩ := Sl.of_own o1
 obtain ⟨A2, c2, rfl, _⟩ := Sl.of_own o2
 have hnb1 : ¬ nb = 0 := by rw [← hnb, HBY.out]; simp
 have hnb0 : 0 < nb := Nat.pos_of_ne_zero hnb1
 have hs1 := hb1.size
 have hs2 := hb2.size
 have hW2 := HH.out.below (hb1.trans (hb2.mono hs1))
 have HK2 := Hdz (WkK.of_below (p := p) (x := x) (hb1.trans (hb2.mono hs1)))
 have hC1 := Hdz (HL1.out w2 A1 na c1 hW2 (Sl.of_own o1))
 have O2 := Hdz o2
 clear hW2 o1 o2
 go_wp2_with (fail)
 go_must (refine hC1.out.mono ?_)
 rintro e w3 ⟨id1, x1, v12, rfl, hm1, hl1, hu1, own12, hns12, hW3, hK3⟩
 have o23 := own_keeps O2.out hK3.keeps (fun k hk hs => by have := HH.out.lt k hs; have := (O2.out.lt k hk).1; omega)
 have hC2 := Hdz (HL2.out w3 A2 nb c2 x1 _ _ (by simp) hW3 (Sl.of_own o23))
 have hxb := hK3.same
 have n23 : ∀ k, (Value.slice A2 nb c2).ownBlock = some k → ¬ x1.S p k := fun k hk hs => by
  rcases hK3.sub k hs with h1 | h1
  ·have := HH.out.lt k h1; have := (O2.out.lt k hk).1; omega
  ·have := (O2.out.lt k hk).2; omega
 have hs3 := hK3.keeps.size
 unfold OwnsC at own12
 obtain ⟨A12, c12, rfl, _⟩ := Sl.of_own own12
 rw [hxb] at hC2
 go_wp2_with (fail)
 go_must (refine hC2.out.mono ?_)
 rintro e w4 ⟨id2, x2, v14, rfl, hm2, hl2, hu2, own14, hns14, hW4, hK4⟩
 unfold OwnsC at own14
 rcases own14.2 with ⟨_, h0⟩ | ⟨g, cap, cur, rfl, hgb, hheap, hnc, hcm, hcs, hcx⟩
 ·cases h0
 have hs4 := hK4.keeps.size
 -- the halves' rows behind the second call
 have o24 := own_keeps o23 hK4.keeps n23
 have own124 := own_keeps own12 hK4.keeps hns12
 have hns124 : ∀ k, (Value.slice A12 1 c12).ownBlock = some k → ¬ x2.S p k := fun k hk hs => by
  rcases hK4.sub k hs with h1 | h1
  ·exact hns12 k hk h1
  ·have := (own12.lt k hk).2; omega
 obtain ⟨blk, off, hAe, hbl, hcell⟩ : ∃ blk off, A2 = some ⟨blk, off, none⟩ ∧ blk < w4.heap.size ∧ ∀ j u, (itemsCs b)[j]? = some u → w4.cell? ⟨blk, off + j, none⟩ = some u := by
  obtain ⟨_, _, e0, _, _, hcl⟩ := Sl.of_own o24
  cases e0
  exact hcl hnb0
 subst hAe
 have y0 : w4.cell? ⟨blk, off, none⟩ = some (strV y.key) := hcell 0 _ (by rw [HBY.out]; rfl)
 obtain ⟨u0, d0⟩ : ∃ u, w4.cell? ⟨g, 0, none⟩ = some u := ⟨_, by rw [cell_of_row w4 g _ cur _ (0, 0) hheap]; exact Array.getElem?_eq_getElem (by simp at hnc; omega)⟩
 have f0 := own14.frozenAt 0
 obtain ⟨q14, _⟩ := own14.stored 0 (strV y.key)
 have hgne : ∀ k, (Value.slice A12 1 c12).ownBlock = some k → k ≠ g := fun k hk e => by have := (own12.lt k hk).2; omega
 have K5 : Keeps (fun k => k = g) w4 (w4.setCell ⟨g, 0, none⟩ (strV y.key)) := (Keeps.refl (fun k => k = g) _).setCell (p := ⟨g, 0, none⟩) (fun _ => rfl) _
 have own125 := own_keeps own124 K5 hgne
 have hW5 := hW4.keeps K5 (fun k hk e => hns14 k (by rw [e]; rfl) hk)
 have hnews : ∀ j u, (childCs ⟨y.key, id2⟩)[j]? = some u → (w4.setCell ⟨g, 0, none⟩ (strV y.key)).cell? ((⟨g, 0, none⟩ : Addr).add j) = some u := by
  obtain ⟨_, _, e0, _, _, hcl⟩ := Sl.of_own q14
  cases e0
  obtain ⟨b', o', e1, _, hcl2⟩ := hcl (by simp)
  cases e1
  intro j u hu
  rw [addr_add]
  refine hcl2 j u ?_
  rw [← hu]
  rfl
 have hs5 := K5.size
 have hb5 : w2.heap.size ≤ (w4.setCell ⟨g, 0, none⟩ (strV y.key)).heap.size := by omega
 have HK5 := Hdz (((HK2.out.trans hK3).trans hK4).fresh K5 (fun k hk => by rw [hk]; have := hgb; omega))
 have HW5 := Hdz hW5
 have HO5 := Hdz own125
 have HN := Hdz hnews
 clear hcell q14 hnews hW5 hW4 hW3 o23 o24 own12 own14 own124 own125 hcx hcs hheap K5 hC2 hC1 HP HS HL1 HL2 hK3 hK4
 go_wp2_with (at_builtin; go_must (refine wpList_append_at rfl _ _ 125 rfl w2.heap.size 186 i0 _ 2 24 Tryz.underlying125 hi hz0 hz1 hz2 rfl (by decide) _ 1 (childrenCs [⟨[], id1⟩]) rfl HO5.out ⟨g, 0, none⟩ 1 cap (childCs ⟨y.key, id2⟩) rfl rfl HN.out (by simp [childCs, Value.oneCell']) (by unfold maxLen; omega) (by omega) hb5 ?_))
 intro v6 w6 own6 hg6 hw6
 have hsz : (w4.setCell ⟨g, 0, none⟩ (strV y.key)).heap.size = w4.heap.size := by simp [World.setCell]
 have K6 : Keeps (fun k => (Value.slice A12 1 c12).ownBlock = some k) (w4.setCell ⟨g, 0, none⟩ (strV y.key)) w6 := (Keeps.refl (fun k => (Value.slice A12 1 c12).ownBlock = some k) _).grown hg6 (fun k hk _ => hk)
 have hW6 := HW5.out.keeps K6 (fun k hk e => hns124 k e hk)
 have hK6 := HK5.out.fresh K6 (fun k hk => by have := (HO5.out.lt k hk).1; omega)
 have HE : Hid (LeafP2 p x most M cnt made dropped a b y.key w (.returned (.tuple #[v6, .int .i64 0])) w6) := by
  refine ⟨id1, id2, x2, v6, rfl, hm1, hl1, hu1, hm2, hl2, hu2, own_base own6 (by omega), fun k hk hs => ?_, by simpa using hW6, hK6⟩
  rcases hw6 k hk with h1 | h1
  ·exact hns124 k h1 hs
  ·have := HW5.out.lt k hs; rw [hsz] at this; omega
 clear own6 hg6 hw6 K6 hW6 hK6
 go_wp2_with (fail)
 refine bodyPost_ret (v := .tuple #[v6, .int .i64 0]) (by simp [results, Tryz.results63, go_sem]) rfl ?_
 exact HE.out
end
end Go.Ev
