/-
  What a change of a tree makes and lets fall: the work's block. The end of a change: what falls away is dropped.
-/
import Derived.Test.YtoemhefcmibjpaaGreatDoorMGwWay
set_option linter.unusedVariables false
set_option linter.unusedSimpArgs false
set_option linter.unusedVariables false
set_option linter.unusedSimpArgs false
namespace Go.Ev
open Go.Proofs Go.RowKit
structure Wc where
 c : Pc
 b : Nat
 mv : Value
 dv : Value
def Wc.S (p : Nat) (x : Wc) (k : Nat) : Prop := x.c.S p k ∨ k = x.b ∨ x.mv.ownBlock = some k ∨ x.dv.ownBlock = some k
structure WkOk (w : World) (p : Nat) (x : Wc) (most : Nat) (M : Store) (cnt : Nat) (made dropped : List Int) : Prop where
 pg : PgOk w p x.c most M cnt
 blk : Blk w x.b 93 #[ptrV p, x.mv, x.dv]
 nb : ¬ x.c.S p x.b
 mo : w.ownsRow 0 3 1 x.mv made.length (intsV made)
 dr : w.ownsRow 0 3 1 x.dv dropped.length (intsV dropped)
 nm : ∀ k, x.mv.ownBlock = some k → ¬ x.c.S p k
 nd : ∀ k, x.dv.ownBlock = some k → ¬ x.c.S p k
 md : ∀ k, x.mv.ownBlock = some k → x.dv.ownBlock ≠ some k
structure WkK (p : Nat) (x x' : Wc) (w w' : World) : Prop where
 keeps : Keeps (x.S p) w w'
 sub : ∀ k, x'.S p k → x.S p k ∨ w.heap.size ≤ k
 same : x'.b = x.b
 mb : x'.c.mb = x.c.mb
 db : x'.c.db = x.c.db
 wb : x'.c.wb = x.c.wb
theorem WkK.refl (p : Nat) (x : Wc) (w : World) : WkK p x x w w := ⟨Keeps.refl _ _, fun _ h => .inl h, rfl, rfl, rfl, rfl⟩
theorem WkK.trans {p : Nat} {x x1 x2 : Wc} {w w1 w2 : World} (h : WkK p x x1 w w1) (k : WkK p x1 x2 w1 w2) : WkK p x x2 w w2 := by
 have hz := h.keeps.size
 refine ⟨h.keeps.trans k.keeps fun i hi hs => ?_, fun i hs => ?_, k.same.trans h.same, k.mb.trans h.mb, k.db.trans h.db, k.wb.trans h.wb⟩
 ·rcases h.sub i hs with h1 | h1
  ·exact h1
  ·omega
 ·rcases k.sub i hs with h1 | h1
  ·exact h.sub i h1
  ·exact .inr (by omega)
theorem WkK.of_below {p : Nat} {x : Wc} {w w' : World} (h : Below w.heap.size w w') : WkK p x x w w' := ⟨Keeps.of_below h, fun _ h => .inl h, rfl, rfl, rfl, rfl⟩
theorem WkK.pager {p : Nat} {x : Wc} {c' : Pc} {w w' : World} (h : PgK p x.c c' w w') : WkK p x { x with c := c' } w w' := by
 refine ⟨h.keeps.mono fun _ _ h => .inl h, fun k hk => ?_, rfl, h.mb, h.db, h.wb⟩
 rcases hk with h1 | h1
 ·rcases h.sub k h1 with h2 | h2
  ·exact .inl (.inl h2)
  ·exact .inr h2
 ·exact .inl (.inr h1)
section
variable {p most cnt : Nat} {x : Wc} {M : Store} {made dropped : List Int} {w w' : World}
theorem WkOk.keeps {S : Nat → Prop} (h : WkOk w p x most M cnt made dropped) (hk : Keeps S w w') (hs : ∀ k, x.S p k → ¬ S k) : WkOk w' p x most M cnt made dropped :=
 ⟨h.pg.keeps hk fun k hh => hs k (.inl hh), h.blk.keeps hk (hs _ (.inr (.inl rfl))), h.nb, own_keeps h.mo hk fun k hh => hs k (.inr (.inr (.inl hh))), own_keeps h.dr hk fun k hh => hs k (.inr (.inr (.inr hh))), h.nm, h.nd, h.md⟩
theorem WkOk.below (h : WkOk w p x most M cnt made dropped) (hb : Below w.heap.size w w') : WkOk w' p x most M cnt made dropped := h.keeps (Keeps.of_below (S := fun _ => False) hb) fun _ _ hh => hh
theorem WkOk.alloc (h : WkOk w p x most M cnt made dropped) (o : Obj) : WkOk (w.alloc o) p x most M cnt made dropped := h.below ((Below.refl _ _).alloc (Nat.le_refl _) o)
theorem WkOk.drew (h : WkOk w p x most M cnt made dropped) : WkOk w.drew p x most M cnt made dropped := h.below ((Below.refl _ _).drew)
theorem WkOk.lt (h : WkOk w p x most M cnt made dropped) : ∀ k, x.S p k → k < w.heap.size := by
 rintro k (h1 | rfl | h1 | h1)
 ·exact h.pg.lt k h1
 ·exact h.blk.lt
 ·exact (h.mo.lt k h1).2
 ·exact (h.dr.lt k h1).2
theorem WkOk.pager {c' : Pc} {M' : Store} {cnt' : Nat} (h : WkOk w p x most M cnt made dropped) (hp : PgOk w' p c' most M' cnt') (hk : PgK p x.c c' w w') : WkOk w' p { x with c := c' } most M' cnt' made dropped := by
 have hn : ∀ k, k < w.heap.size → ¬ x.c.S p k → ¬ c'.S p k := fun k hk1 h1 h2 => by
  rcases hk.sub k h2 with h3 | h3
  ·exact h1 h3
  ·omega
 exact ⟨hp, h.blk.keeps hk.keeps h.nb, hn _ h.blk.lt h.nb, own_keeps h.mo hk.keeps h.nm, own_keeps h.dr hk.keeps h.nd, fun k hh => hn k (h.mo.lt k hh).2 (h.nm k hh), fun k hh => hn k (h.dr.lt k hh).2 (h.nd k hh), h.md⟩
theorem WkOk.grownM {v : Value} {l : List Int} (h : WkOk w p x most M cnt made dropped) (hg : w.grownBy w' x.mv.ownBlock) (ho : w'.ownsRow 0 3 1 v (made.length + l.length) (intsV made ++ intsV l)) (hw : ∀ k, v.ownBlock = some k → x.mv.ownBlock = some k ∨ w.heap.size ≤ k) :
  WkOk (w'.setCell ⟨x.b, 1, none⟩ v) p { x with mv := v } most M cnt (made ++ l) dropped ∧ WkK p x { x with mv := v } w (w'.setCell ⟨x.b, 1, none⟩ v) := by
 have K1 : Keeps (fun k => x.mv.ownBlock = some k) w w' := (Keeps.refl (fun k => x.mv.ownBlock = some k) _).grown hg (fun k hk _ => hk)
 have hmb : ∀ k, x.mv.ownBlock = some k → k ≠ x.b := own_ne h.mo h.blk (by decide)
 have hdb : ∀ k, x.dv.ownBlock = some k → k ≠ x.b := own_ne h.dr h.blk (by decide)
 have b1 := h.blk.keeps K1 (fun e => hmb _ e rfl)
 have K2 : Keeps (fun k => x.mv.ownBlock = some k ∨ k = x.b) w (w'.setCell ⟨x.b, 1, none⟩ v) := (K1.mono fun _ _ h => .inl h).setCell (fun _ => .inr rfl) v
 have hvb : ∀ k, v.ownBlock = some k → k ≠ x.b := fun k hk e => by
  rcases hw k hk with h1 | h1
  ·exact hmb k h1 e
  ·have := h.blk.lt; omega
 refine ⟨⟨h.pg.keeps K2 fun k hk e => ?_, b1.set 1 v, h.nb, ?_, own_keeps h.dr K2 fun k hk e => ?_, fun k hk e => ?_, h.nd, fun k hk e => ?_⟩, K2.mono fun k _ e => ?_, fun k hk => ?_, rfl, rfl, rfl, rfl⟩
 ·rcases e with e | e
  ·exact h.nm k e hk
  ·exact h.nb (e ▸ hk)
 ·have := own_keeps (S := fun k => k = x.b) ho ((Keeps.refl (fun k => k = x.b) _).setCell (p := ⟨x.b, 1, none⟩) (fun _ => rfl) v) hvb
  simpa [intsV] using this
 ·rcases e with e | e
  ·exact h.md k e hk
  ·exact hdb k hk e
 ·rcases hw k hk with h1 | h1
  ·exact h.nm k h1 e
  ·have := h.pg.lt k e; omega
 ·rcases hw k hk with h1 | h1
  ·exact h.md k h1 e
  ·have := (h.dr.lt k e).2; omega
 ·rcases e with e | e
  ·exact .inr (.inr (.inl e))
  ·exact .inr (.inl e)
 ·rcases hk with h1 | h1 | h1 | h1
  ·exact .inl (.inl h1)
  ·exact .inl (.inr (.inl h1))
  ·rcases hw k h1 with h2 | h2
   ·exact .inl (.inr (.inr (.inl h2)))
   ·exact .inr h2
  ·exact .inl (.inr (.inr (.inr h1)))
theorem WkOk.grownD {v : Value} {l : List Int} (h : WkOk w p x most M cnt made dropped) (hg : w.grownBy w' x.dv.ownBlock) (ho : w'.ownsRow 0 3 1 v (dropped.length + l.length) (intsV dropped ++ intsV l)) (hw : ∀ k, v.ownBlock = some k → x.dv.ownBlock = some k ∨ w.heap.size ≤ k) :
  WkOk (w'.setCell ⟨x.b, 2, none⟩ v) p { x with dv := v } most M cnt made (dropped ++ l) ∧ WkK p x { x with dv := v } w (w'.setCell ⟨x.b, 2, none⟩ v) := by
 have K1 : Keeps (fun k => x.dv.ownBlock = some k) w w' := (Keeps.refl (fun k => x.dv.ownBlock = some k) _).grown hg (fun k hk _ => hk)
 have hmb : ∀ k, x.mv.ownBlock = some k → k ≠ x.b := own_ne h.mo h.blk (by decide)
 have hdb : ∀ k, x.dv.ownBlock = some k → k ≠ x.b := own_ne h.dr h.blk (by decide)
 have b1 := h.blk.keeps K1 (fun e => hdb _ e rfl)
 have K2 : Keeps (fun k => x.dv.ownBlock = some k ∨ k = x.b) w (w'.setCell ⟨x.b, 2, none⟩ v) := (K1.mono fun _ _ h => .inl h).setCell (fun _ => .inr rfl) v
 have hvb : ∀ k, v.ownBlock = some k → k ≠ x.b := fun k hk e => by
  rcases hw k hk with h1 | h1
  ·exact hdb k h1 e
  ·have := h.blk.lt; omega
 refine ⟨⟨h.pg.keeps K2 fun k hk e => ?_, b1.set 2 v, h.nb, own_keeps h.mo K2 fun k hk e => ?_, ?_, h.nm, fun k hk e => ?_, fun k hk e => ?_⟩, K2.mono fun k _ e => ?_, fun k hk => ?_, rfl, rfl, rfl, rfl⟩
 ·rcases e with e | e
  ·exact h.nd k e hk
  ·exact h.nb (e ▸ hk)
 ·rcases e with e | e
  ·exact h.md k hk e
  ·exact hmb k hk e
 ·have := own_keeps (S := fun k => k = x.b) ho ((Keeps.refl (fun k => k = x.b) _).setCell (p := ⟨x.b, 2, none⟩) (fun _ => rfl) v) hvb
  simpa [intsV] using this
 ·rcases hw k hk with h1 | h1
  ·exact h.nd k h1 e
  ·have := h.pg.lt k e; omega
 ·rcases hw k e with h1 | h1
  ·exact h.md k hk h1
  ·have := (h.mo.lt k hk).2; omega
 ·rcases e with e | e
  ·exact .inr (.inr (.inr e))
  ·exact .inr (.inl e)
 ·rcases hk with h1 | h1 | h1 | h1
  ·exact .inl (.inl h1)
  ·exact .inl (.inr (.inl h1))
  ·exact .inl (.inr (.inr (.inl h1)))
  ·rcases hw k h1 with h2 | h2
   ·exact .inl (.inr (.inr (.inr h2)))
   ·exact .inr h2
theorem WkOk.blkM (h : WkOk w p x most M cnt made dropped) (hg : w.grownBy w' x.mv.ownBlock) : Blk w' x.b 93 #[ptrV p, x.mv, x.dv] :=
 h.blk.keeps ((Keeps.refl (fun k => x.mv.ownBlock = some k) _).grown hg (fun k hk _ => hk)) (fun e => own_ne h.mo h.blk (by decide) _ e rfl)
theorem WkOk.blkD (h : WkOk w p x most M cnt made dropped) (hg : w.grownBy w' x.dv.ownBlock) : Blk w' x.b 93 #[ptrV p, x.mv, x.dv] :=
 h.blk.keeps ((Keeps.refl (fun k => x.dv.ownBlock = some k) _).grown hg (fun k hk _ => hk)) (fun e => own_ne h.dr h.blk (by decide) _ e rfl)
def PageP (p : Nat) (x : Wc) (most : Nat) (M : Store) (cnt : Nat) (made dropped : List Int) (g : Pg) (w : World) (e : Ending) (w' : World) : Prop :=
 ∃ id x', e = .returned (.tuple #[.int .i64 id, .int .i64 0]) ∧ M id = none ∧ 2 ≤ id ∧ id ≤ 100000 ∧ WkOk w' p x' most (updS M id (some g)) (cnt + 1) (made ++ [id]) dropped ∧ WkK p x x' w w'
set_option maxHeartbeats 1000000 in
set_option maxRecDepth 100000 in
theorem page_any (g : Pg) (h : WkOk w p x most M cnt made dropped) (hx : g.ok) (h0 : g.next = 0) (hroom : cnt + 3 ≤ most) (hmd : made.length ≤ 100000) :
  Calls Tryz.prog 81 #[ptrV x.b, .int .i64 g.kind, strV g.body] w (PageP p x most M cnt made dropped g w) := by
 obtain ⟨i0, hi, hz0, hz1, hz2⟩ := info_parts infoInt
 obtain ⟨gk, gn, gb⟩ := g
 simp only at h0
 subst h0
 have hMk := Lib.hid (make_any (M := M) ⟨gk, 0, gb⟩ w h.pg hx hroom)
 have g0 : w.cell? ⟨x.b, 0, none⟩ = some (ptrV p) := h.blk.cell 0
 go_enter Tryz.func81, Tryz.ntmps81
 go_wp2_with (fail)
 go_must (refine hMk.out.mono ?_)
 rintro e w1 ⟨id, c', rfl, hid, hid2, hid3, hpg, hK⟩
 have h1 := h.pager hpg hK
 have kk1 := WkK.pager (x := x) hK
 have g1 : w1.cell? ⟨x.b, 1, none⟩ = some x.mv := h1.blk.cell 1
 have hmo : ∀ o, (w1.alloc o).ownsRow 0 3 1 x.mv made.length (intsV made) := fun o => (h1.alloc o).mo
 have hm1 : made.length + 1 ≤ maxLen := by unfold maxLen; omega
 go_wp2_with (at_builtin; go_must (refine wpList_append_at rfl _ _ 63 rfl 0 3 i0 _ 1 8 Tryz.underlying63 hi hz0 hz1 hz2 rfl (by decide) _ made.length (intsV made) rfl (hmo _) ⟨w1.heap.size, 0, none⟩ 1 1 [.int .i64 id] rfl rfl (row_newS _ _ _ _ rfl) (by simp [Value.oneCell']) hm1 (by omega) (by simp) ?_))
 intro v4 w4 own4 hg4 hw4
 have h2 := h1.alloc (.cells #[.int .i64 id] 3)
 obtain ⟨h3, kk3⟩ := h2.grownM (l := [id]) hg4 own4 (by simpa using hw4)
 have bb := h2.blkM hg4
 have c1 : w4.cell? ⟨x.b, 1, none⟩ = some x.mv := bb.cell 1
 have f1 : w4.frozen? ⟨x.b, 1, none⟩ = false := bb.frozen 1
 obtain ⟨A4, c4, rfl, _⟩ := Sl.of_own own4
 have HE : Hid (PageP p x most M cnt made dropped ⟨gk, 0, gb⟩ w (.returned (.tuple #[.int .i64 id, .int .i64 0])) (w4.setCell ⟨x.b, 1, none⟩ (.slice A4 (made.length + 1) c4))) :=
  ⟨id, _, rfl, hid, hid2, hid3, h3, (kk1.trans (WkK.of_below ((Below.refl _ _).alloc (Nat.le_refl _) _))).trans kk3⟩
 clear own4 hg4 hw4 h1 h2 h3 kk3 kk1 hpg hK hmo
 go_wp2_with (fail)
 refine bodyPost_ret (v := .tuple #[.int .i64 id, .int .i64 0]) (by simp [results, Tryz.results81, go_sem]) rfl ?_
 exact HE.out
end
end Go.Ev

set_option linter.unusedVariables false
set_option linter.unusedSimpArgs false
namespace Go.Ev
open Go.Proofs Go.RowKit
def dropAll (M : Store) (l : List Int) : Store := l.foldl (fun M i => updS M i none) M
theorem dropAll_snoc (M : Store) (l : List Int) (i : Int) : dropAll M (l ++ [i]) = updS (dropAll M l) i none := by simp [dropAll]
theorem dropAll_at (M : Store) : ∀ (l : List Int) (i : Int), dropAll M l i = if i ∈ l then none else M i := by
 intro l
 induction l generalizing M with
 | nil => intro i; rfl
 | cons a l ih =>
  intro i
  show dropAll (updS M a none) l i = _
  rw [ih, updS]
  by_cases h1 : i ∈ l
  ·simp [h1]
  ·by_cases h2 : i = a
   ·simp [h1, h2]
   ·simp [h1, h2]
def EndP (p : Nat) (c : Pc) (most : Nat) (M : Store) (cnt : Nat) (l : List Int) (w : World) (e : Ending) (w' : World) : Prop :=
 e = .returned (.int .i64 0) ∧ ∃ c', PgOk w' p c' most (dropAll M l) (cnt - l.length) ∧ PgK p c c' w w'
section
variable {p most cnt : Nat} {x : Wc} {M : Store} {made dropped : List Int} {w w' : World}
set_option maxHeartbeats 1000000 in
set_option maxRecDepth 100000 in
theorem end_ok (h : WkOk w p x most M cnt made dropped) (hn : dropped.Nodup) (hM : ∀ i ∈ dropped, (M i).isSome = true) (hl : dropped.length ≤ 100000) :
  Calls Tryz.prog 43 #[ptrV x.b, .int .i64 0] w (EndP p x.c most M cnt dropped w) := by
 obtain ⟨c, b, mv, dv⟩ := x
 have hdr := h.dr
 simp only at hdr
 obtain ⟨A, cc, rfl, _⟩ := Sl.of_own hdr
 clear hdr
 have g0 : w.cell? ⟨b, 0, none⟩ = some (ptrV p) := h.blk.cell 0
 have g2 : w.cell? ⟨b, 2, none⟩ = some (.slice A dropped.length cc) := h.blk.cell 2
 have HN := Lib.hid hn
 have HM := Lib.hid hM
 clear hn hM
 go_enter Tryz.func43, Tryz.ntmps43
 go_wp2_with (fail)
 go_loopg [20] dropped.length (fun gk s20 wr => ∃ (done rest : List Int) (c1 : Pc), s20 = .int .i64 done.length ∧ rest.length ≤ gk ∧ Hid (dropped = done ++ rest) ∧ WkOk wr p ⟨c1, b, mv, .slice A dropped.length cc⟩ most (dropAll M done) (cnt - done.length) made dropped ∧ Hid (PgK p c c1 w wr))
 case atStart => exact ⟨[], dropped, c, rfl, Nat.le_refl _, rfl, h, PgK.refl _ _ _⟩
 case round =>
  obtain ⟨done, rest, c1, rfl, hg, hD, hW, hK⟩ := hrel
  have hlen : dropped.length = done.length + rest.length := by rw [hD.out, List.length_append]
  cases rest with
  | nil =>
   have hdd : Hid (done = dropped) := by show _ = _; rw [hD.out, List.append_nil]
   have hln : done.length = dropped.length := by rw [hdd.out]
   have HW := Lib.hid hW.pg
   have hge : ¬ (done.length : Int) < (dropped.length : Int) := by omega
   clear hW hD hlen hg
   go_wp2_with (fail)
   go_ret
   refine ⟨rfl, c1, ?_, hK.out⟩
   have := HW.out
   rw [hdd.out] at this
   exact this
  | cons y r =>
   have hlt : (done.length : Int) < (dropped.length : Int) := by rw [hlen]; simp; omega
   have hlt2 : done.length < dropped.length := by omega
   have hge0 : (0 : Int) ≤ (done.length : Int) := by omega
   have g0r : wr.cell? ⟨b, 0, none⟩ = some (ptrV p) := hW.blk.cell 0
   obtain ⟨A', c', e0, _, _, hcl⟩ := Sl.of_own hW.dr
   cases e0
   obtain ⟨blk, off, rfl, hbl, hcell⟩ := hcl (by omega)
   have hyv : wr.cell? ⟨blk, off + done.length, none⟩ = some (.int .i64 y) := hcell done.length _ (by rw [hD.out]; simp [intsV])
   have hy : (dropAll M done y).isSome = true := by
    rw [dropAll_at, if_neg]
    ·exact HM.out y (by rw [hD.out]; simp)
    ·intro hm
     have := HN.out
     rw [hD.out, List.nodup_append] at this
     exact this.2.2 y hm y (List.mem_cons_self ..) rfl
   obtain ⟨pg, hpg⟩ := Option.isSome_iff_exists.1 hy
   have HDr := Lib.hid (drop_any y pg wr hW.pg hpg)
   have hD2 : Hid (dropped = (done ++ [y]) ++ r) := by show _ = _; rw [hD.out]; simp
   have hrg : r.length < gk := by simp at hg; omega
   have HW := Lib.hid hW
   clear hcl hcell hpg hy hD hlen hW
   go_wp2_with (fail)
   go_must (refine HDr.out.mono ?_)
   rintro e w1 ⟨rfl, c2, hp2, hK2⟩
   have HW2 := Lib.hid (HW.out.pager hp2 hK2)
   have HK2 := Lib.hid (hK.out.trans hK2)
   clear hp2 hK2
   go_wp2_with (fail)
   go_roundg r.length
   case measure => omega
   case rel => exact ⟨done ++ [y], r, c2, by simp, Nat.le_refl _, hD2, by have := HW2.out; rw [dropAll_snoc, List.length_append]; rwa [Nat.sub_sub] at this, HK2⟩
end
end Go.Ev
