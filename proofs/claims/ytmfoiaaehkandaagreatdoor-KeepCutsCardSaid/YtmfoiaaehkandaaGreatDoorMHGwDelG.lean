/-
  Texts of this claim.
-/
import Derived.Test.YtmfoiaaehkandaaGreatDoorMHGwPutT0
import Derived.Test.YtmfoiaaehkandaaGreatDoorMHGwUpG
set_option linter.unusedVariables false
set_option linter.unusedSimpArgs false
set_option maxHeartbeats 8000000
set_option maxRecDepth 100000
namespace Go.Ev
open Go.Proofs Go.RowKit
def PutGP (p : Nat) (c : Pc) (most : Nat) (M : Store) (cnt : Nat) (ids : List Int) (ps' : List Pair) (n' : Nat) (w : World) (e : Ending) (w' : World) : Prop :=
 ∃ root M' c' cnt' ids', e = .returned (.tuple #[.int .i64 root, .int .i64 0]) ∧ TreeH M' root ps' ids' n' ∧ PgOk w' p c' most M' cnt' ∧ (cnt' + ids.length = cnt + ids'.length ∧ cnt' ≤ cnt + 48) ∧ (∀ i, i ∉ ids → M i ≠ none → M' i = M i) ∧ (∀ i ∈ ids', i ∈ ids ∨ M i = none) ∧ PgK p c c' w w'
theorem UpsE.full {M M1 : Store} {kids kids1 : List Child} {G G' : List (Int × Nat × List Child)} {k : Nat} {new : List Int} (h : UpsE M kids G k M1 kids1 new) (e : G = G') (hk : G'.length ≤ k) : UpsG M kids G' M1 kids1 new := by
 subst e
 have := h.ups
 rwa [List.take_of_length_le hk] at this
theorem EndG.len {M M' : Store} {kids : List Child} {G : List (Int × Nat × List Child)} {root : Int} {new drp : List Int} (h : EndG M kids G root M' new drp) : new.length ≤ 2 * G.length + 3 := by
 have hf : ∀ {M3 : Store} {ks : List Child} {M4 : Store} {n3 : List Int}, FinG M3 ks root M4 n3 → n3.length ≤ 2 := by
  rintro M3 ks M4 n3 (⟨_, _, _, _, _, rfl⟩ | ⟨_, _, _, _, rfl⟩ | ⟨_, _, _, (⟨_, _, _, _, _, _, _, rfl⟩ | ⟨_, _, _, _, _, _, _, _, _, _, _, _, _, _, _, _, rfl⟩)⟩) <;> simp
 have hl : ∀ {M3 : Store} {L : List Child} {ks : List Child} {M4 : Store} {n2 : List Int}, LaidG M3 L ks M4 n2 → n2.length ≤ 2 := by
  rintro M3 L ks M4 n2 (⟨_, _, _, rfl⟩ | ⟨_, (⟨_, _, _, _, _, _, _, rfl⟩ | ⟨_, _, _, _, _, _, _, _, _, _, _, _, _, _, _, _, rfl⟩)⟩) <;> simp
 rcases h with ⟨rfl, _, h⟩ | ⟨pre, s, M2, kids1, new1, c, rfl, h1, _, (⟨x, _, _, _, rfl⟩ | ⟨M3, kids2, new2, new3, _, h2, h3, rfl, _⟩)⟩
 ·have := hf h; omega
 ·have := h1.len
  simp only [List.length_append, List.length_cons, List.length_nil]
  omega
 ·have := h1.len
  have := hl h2
  have := hf h3
  simp only [List.length_append, List.length_cons, List.length_nil]
  omega
theorem Seg.getSub {T : Int → Bytes → Option Bytes → List Pair → List Int → Prop} : ∀ {L : List Child} {hi : Option Bytes} {ps : List Pair} {ids : List Int}, Seg T L hi ps ids → ∀ {i : Nat} {y : Child}, L[i]? = some y → ∃ h p q, T y.page y.key h p q ∧ q.Sublist ids
 | [], _, _, _, _, i, y, hy => by simp at hy
 | c :: L, hi, ps, ids, ⟨p1, p2, i1, i2, h1, h2, h3, h4⟩, 0, y, hy => by
  simp only [List.getElem?_cons_zero, Option.some.injEq] at hy
  subst hy h2
  exact ⟨_, _, _, h3, List.sublist_append_left _ _⟩
 | c :: L, hi, ps, ids, ⟨p1, p2, i1, i2, h1, h2, h3, h4⟩, i + 1, y, hy => by
  simp only [List.getElem?_cons_succ] at hy
  obtain ⟨h, p, q, g1, g2⟩ := Seg.getSub h4 hy
  subst h2
  exact ⟨h, p, q, g1, g2.trans (List.sublist_append_right _ _)⟩
theorem Trail.sub {M : Store} {key : Bytes} {id lid : Int} {P : List (Int × Nat × List Child)} {items : List Item} (h : Trail M key id P lid items) : ∀ {d k : Nat} {lo : Bytes} {hi : Option Bytes} {ps : List Pair} {ids : List Int}, TreeAt M d k id lo hi ps ids → (P.map (fun z : Int × Nat × List Child => z.1)).Sublist ids := by
 induction h with
 | leaf => intros; simp
 | branch h1 h2 h3 h4 _ ih =>
  intro d k lo hi ps ids ht
  cases k with
  | zero => obtain ⟨items, i2, g1, _⟩ := ht; rw [h1] at g1; simp at g1
  | succ k =>
   obtain ⟨c, L, i2, g1, g2, g3, g4, g5, g6, g7⟩ := ht
   rw [h1] at g1
   simp only [Option.some.injEq, Pg.mk.injEq, true_and] at g1
   have := layC_inj h2 g2 h3 g1
   subst this
   obtain ⟨y, hy, hpg⟩ := headKey_page [] _ _ _ h4
   obtain ⟨h', p', q', ⟨ht, _⟩, hs⟩ := Seg.getSub g6 hy
   rw [hpg] at ht
   subst g7
   simp only [List.map_cons]
   exact ((ih ht).trans hs).cons_cons _
theorem Trail.once {M : Store} {key : Bytes} {id lid : Int} {P : List (Int × Nat × List Child)} {items : List Item} {d k : Nat} {lo : Bytes} {hi : Option Bytes} {ps : List Pair} {ids : List Int} (h : Trail M key id P lid items) (ht : TreeAt M d k id lo hi ps ids) (hn : ids.Nodup) : (P.map (fun z : Int × Nat × List Child => z.1)).Nodup := (h.sub ht).nodup hn
section
variable {p most cnt : Nat} {c : Pc} {x : Wc} {M : Store} {made dropped : List Int} {w : World}
theorem nodup_len : ∀ {a b : List Int}, a.Nodup → (∀ x ∈ a, x ∈ b) → a.length ≤ b.length
 | [], b, _, _ => Nat.zero_le _
 | x :: a, b, hn, hs => by
  obtain ⟨h1, h2⟩ := List.nodup_cons.1 hn
  have hx := hs x (List.mem_cons_self ..)
  have h3 := nodup_len (b := b.erase x) h2 fun y hy => (List.mem_erase_of_ne (fun e => h1 (by rw [← e]; exact hy))).2 (hs y (List.mem_cons_of_mem _ hy))
  rw [List.length_erase_of_mem hx] at h3
  have := List.length_pos_of_mem hx
  simp only [List.length_cons]
  omega
theorem WkOk.few (h : WkOk w p x most M cnt made dropped) {D : List Int} (hn : D.Nodup) (hs : ∀ i ∈ D, (M i).isSome = true) : D.length ≤ cnt := by
 obtain ⟨n, md, was, mc, wc, dc, spare, hA, hI, hP, rfl⟩ := h.pg
 have hsub : ∀ i ∈ D, i ∈ keysE md := fun i hi => (hP.key i).2 (hs i hi)
 have h1 : D.length ≤ (keysE md).length := nodup_len hn hsub
 simpa [keysE] using h1
theorem end_behind {root' : Int} {M' : Store} {ps' : List Pair} {ids ids' N D mm : List Int} {n' : Nat} {x4 : Wc} {w7 : World} (hw4 : WkOk w7 p x4 most M' (cnt + N.length) mm D) (hth : ∀ i ∈ ids, M i ≠ none) (hnd : ids.Nodup) (hgrow : Grow M M' N)
  (hT' : ∃ k S, TopAt M' k root' ps' ids' ∧ Hist M' k root' S n') (hsh : Short ps') (hperm : (ids' ++ D).Perm (ids ++ N)) (hDl : D.length ≤ 100000) (hNl : N.length ≤ 48) (hkeepW : Keeps (c.S p) w w7) (hsubW : ∀ j, x4.S p j → c.S p j ∨ w.heap.size ≤ j) (hmbs : x4.c.mb = c.mb ∧ x4.c.db = c.db ∧ x4.c.wb = c.wb) :
  Calls Tryz.prog 146 #[ptrV x4.b, .int .i64 0] w7 fun e w8 => e = .returned (.int .i64 0) ∧ PutGP p c most M cnt ids ps' n' w (.returned (.tuple #[.int .i64 root', .int .i64 0])) w8 := by
 have hall : (ids ++ N).Nodup := List.nodup_append.2 ⟨hnd, hgrow.nodup, fun a ha b hb e => hth a ha (e ▸ hgrow.fresh b hb)⟩
 have hall2 := hperm.nodup_iff.2 hall
 obtain ⟨hn1, hn2, hn3⟩ := List.nodup_append.1 hall2
 have hsome : ∀ i ∈ D, (M' i).isSome = true := by
  intro i hi
  have hm : i ∈ ids ++ N := hperm.mem_iff.1 (List.mem_append_right _ hi)
  have : M' i ≠ none := by
   by_cases hin : i ∈ N
   ·exact hgrow.there i hin
   ·rw [hgrow.same i hin]
    exact hth i ((List.mem_append.1 hm).resolve_right hin)
  cases hq : M' i with
  | none => exact absurd hq this
  | some y => rfl
 have hplen := hperm.length_eq
 simp only [List.length_append] at hplen
 have hDc := WkOk.few hw4 hn2 hsome
 have hdi : ∀ i ∈ ids', dropAll M' D i = M' i := fun i hi => by rw [dropAll_at, if_neg fun hm => hn3 i hi i hm rfl]
 refine (end_ok hw4 hn2 hsome hDl).mono ?_
 rintro e w8 ⟨rfl, c'', hpg8, hk8⟩
 obtain ⟨m1, m2, m3⟩ := hmbs
 have hTs : TreeH M' root' ps' ids' n' := ⟨hT', hn1, hsh⟩
 refine ⟨rfl, root', _, c'', _, ids', rfl, hTs.same fun i hi => hdi i hi, hpg8, ⟨by omega, by omega⟩, fun i hi hm => ?_, fun i hi => ?_, ⟨hkeepW.trans hk8.keeps fun i hi e => ?_, fun j e => ?_, hk8.mb.trans m1, hk8.db.trans m2, hk8.wb.trans m3⟩⟩
 ·have hnew : i ∉ N := fun e => hm (hgrow.fresh i e)
  have hiD : i ∉ D := fun e => by
   have := hperm.mem_iff.1 (List.mem_append_right _ e)
   rcases List.mem_append.1 this with e | e
   ·exact hi e
   ·exact hnew e
  rw [dropAll_at, if_neg hiD, hgrow.same i hnew]
 ·have := hperm.mem_iff.1 (List.mem_append_left _ hi)
  rcases List.mem_append.1 this with e | e
  ·exact .inl e
  ·exact .inr (hgrow.fresh i e)
 ·rcases hsubW i (.inl e) with e | e
  ·exact e
  ·omega
 ·rcases hk8.sub j e with e | e
  ·exact hsubW j (.inl e)
  ·have := hkeepW.size; exact .inr (by omega)
/-- tree.up, and tree.end behind it. -/
theorem upend_ok {k nN : Nat} {psN : List Pair} {ids N1 DD mm : List Int} {P : List (Int × Nat × List Child)} {kids : List Child} {M1 : Store} {wW w6 : World} {x3 : Wc} {st : List Step} {Ap B : Option Addr} {cp ck : Nat}
  (h : PgOk w p c most M cnt) (hnd : ids.Nodup) (hth : ∀ i ∈ ids, M i ≠ none) (hsh : Short psN) (hk8 : k ≤ 17) (hFit : FitsG k M1 kids P.reverse) (hkf : KidsG kids)
  (hfin : ∀ root M' new drp, EndG M1 kids P.reverse root M' new drp → Grow M M' (N1 ++ new) ∧ ∃ k' ids' S', TopAt M' k' root psN ids' ∧ Hist M' k' root S' nN ∧ (ids' ++ drp ++ DD ++ P.reverse.map (fun z : Int × Nat × List Child => z.1)).Perm (ids ++ N1 ++ new))
  (hgh : st.map Step.ghost = P) (hPl : P.length = k) (hPn : (P.map (fun z : Int × Nat × List Child => z.1)).Nodup) (hat : ∀ s ∈ P, s.2.1 < s.2.2.length)
  (hst : w6.ownsRow 0 289 3 (.slice Ap st.length cp) st.length (stepsCs st)) (hstb : ∀ j, (Value.slice Ap st.length cp).ownBlock = some j → w.heap.size ≤ j ∧ j < wW.heap.size) (hstk : StepsOk w6 0 st) (hsb : ∀ s ∈ st, ∀ j, s.v.ownBlock = some j → w.heap.size ≤ j ∧ j < wW.heap.size)
  (hbw : Below w.heap.size w wW) (htrk : Trk c p wW.heap.size wW w6 x3) (hw3 : WkOk w6 p x3 most M1 (cnt + N1.length) mm DD) (ownk : OwnsC w6 0 (.slice B kids.length ck) kids) (hkb : ∀ j, (Value.slice B kids.length ck).ownBlock = some j → wW.heap.size ≤ j) (nsk : ∀ j, (Value.slice B kids.length ck).ownBlock = some j → ¬ x3.S p j) (hAk : B = none → ck = 0)
  (hN1 : N1.length ≤ 11) (hroom : cnt + 2 * k + 16 ≤ most) (hmm : mm.length ≤ 900) (hDD : DD.length ≤ 100) (hil0 : ids.length ≤ 90000) :
  Calls Tryz.prog 149 #[ptrV x3.b, .slice Ap st.length cp, .slice B kids.length ck] w6 fun e w7 => ∃ root', e = .returned (.tuple #[.int .i64 root', .int .i64 0]) ∧
   Calls Tryz.prog 146 #[ptrV x3.b, .int .i64 0] w7 fun e w8 => e = .returned (.int .i64 0) ∧ PutGP p c most M cnt ids psN nN w (.returned (.tuple #[.int .i64 root', .int .i64 0])) w8 := by
 obtain ⟨hfit, hend, hshr⟩ := hFit
 have hz0 := h.lt
 have hkeep : ∀ j, w.heap.size ≤ j → j < wW.heap.size → ¬ (c.S p j ∨ wW.heap.size ≤ j) := fun j h1 h2 e => by
  rcases e with e | e
  ·have := hz0 j e; omega
  ·omega
 have hstl : st.length = k := by rw [← hPl, ← hgh, List.length_map]
 have hx3n : ∀ j, w.heap.size ≤ j → j < wW.heap.size → ¬ x3.S p j := fun j h1 h2 e => hkeep j h1 h2 (htrk.sub j e)
 have hG : (st.map Step.ghost).reverse = P.reverse := by rw [hgh]
 have hstl' : P.reverse.length ≤ st.length := by rw [← hgh]; simp
 have hidn : (st.map (fun s : Step => s.id)).Nodup := by
  have e : st.map (fun s : Step => s.id) = P.map (fun z : Int × Nat × List Child => z.1) := by rw [← hgh, List.map_map]; rfl
  rw [e]
  exact hPn
 have hshr' : ∀ pre s M2 kids1 new c y, (st.map Step.ghost).reverse = pre ++ [s] → UpsG M1 kids pre M2 kids1 new → s.2.2[s.2.1]? = some c → allC s.2.2 s.2.1 c kids1 = [y] → ∃ root drp, Shrink M2 y.page root drp ∧ drp.length ≤ 28 := by
  intro pre s M2 kids1 new c y e1 e2 e3 e4
  rw [hG] at e1
  obtain ⟨r, d, g1, g2⟩ := hshr pre s M2 kids1 new c y e1 e2 e3 e4
  exact ⟨r, d, g1, by omega⟩
 refine (upG_ok Ap B cp ck st kids w6 hw3 hst ownk (by omega) hstk nsk (fun j hj => hx3n j (hstb j hj).1 (hstb j hj).2)
  (fun s hs j hj => ⟨hx3n j (hsb s hs j hj).1 (hsb s hs j hj).2, fun e => by have h5 := (hsb s hs j hj).2; have h6 := hkb j e; omega⟩)
  (fun s hs => hat s.ghost (by rw [← hgh]; exact List.mem_map_of_mem hs)) (by rw [hG]; exact hfit) (fun M2 kids1 new hu => hend M2 kids1 new (hu.full hG hstl')) hkf hAk hidn hshr' (by omega) (by omega) (by omega)).mono ?_
 rintro e w7 ⟨root', M', new, drp, x4, rfl, hUE, hw4, hkk, hfr⟩
 refine ⟨root', rfl, ?_⟩
 rw [hG] at hUE hw4
 obtain ⟨hgrow, k', ids', S', hT', hH', hperm⟩ := hfin root' M' new drp hUE
 obtain ⟨D, hD⟩ : ∃ D, D = DD ++ P.reverse.map (·.1) ++ drp := ⟨_, rfl⟩
 replace hperm : (ids' ++ D).Perm (ids ++ (N1 ++ new)) := by
  rw [hD]
  rw [List.perm_iff_count] at hperm ⊢
  intro a
  have := hperm a
  simp only [List.count_append] at this ⊢
  omega
 rw [← hD] at hw4
 have hDl : D.length ≤ 100000 := by
  have hplen := hperm.length_eq
  simp only [List.length_append] at hplen
  have hg4 := hUE.len
  rw [List.length_reverse, hPl] at hg4
  omega
 have hkeepW : Keeps (c.S p) w w7 := by
  refine ((Keeps.of_below (S := c.S p) hbw).trans htrk.keeps fun i hi e => ?_).trans hfr fun i hi e => ?_
  ·rcases e with e | e
   ·exact e
   ·have := hbw.size; omega
  ·rcases e with e | e
   ·rcases htrk.sub i e with e | e
    ·exact e
    ·have := hbw.size; omega
   ·have := hkb i e
    have := hbw.size
    omega
 have hsubW : ∀ j, x4.S p j → c.S p j ∨ w.heap.size ≤ j := fun j e => by
  have h5 := hbw.size
  have h6 := htrk.size
  rcases hkk.sub j e with e | e
  ·rcases htrk.sub j e with e | e
   ·exact .inl e
   ·exact .inr (by omega)
  ·exact .inr (by omega)
 have hmbs : x4.c.mb = c.mb ∧ x4.c.db = c.db ∧ x4.c.wb = c.wb := ⟨hkk.mb.trans htrk.mb, hkk.db.trans htrk.db, hkk.wb.trans htrk.wb⟩
 have hw4' : WkOk w7 p x4 most M' (cnt + (N1 ++ new).length) (mm ++ new) D := by
  rw [List.length_append, ← Nat.add_assoc]
  exact hw4
 have hNl : (N1 ++ new).length ≤ 48 := by
  have hg4 := hUE.len
  rw [List.length_reverse, hPl] at hg4
  rw [List.length_append]
  omega
 have hEnd := end_behind (cnt := cnt) hw4' hth hnd hgrow ⟨k', S', hT', hH'⟩ hsh hperm hDl hNl hkeepW hsubW hmbs
 rw [hkk.same] at hEnd
 exact hEnd
end
section
variable {p most cnt : Nat} {c : Pc} {x : Wc} {M : Store} {made dropped : List Int} {w : World}
theorem treePutG_ok (root : Int) (key v : Bytes) (ps : List Pair) (ids : List Int) (n : Nat) (h : PgOk w p c most M cnt) (ht : TreeH M root ps ids n) (hk1 : 1 ≤ key.length) (hk2 : key.length ≤ 40) (hv : v.length ≤ 2000) (hn : n ≤ 20000) (hil0 : ids.length ≤ 90000) (hroom : cnt + 50 ≤ most ∨ (ps.length ≤ 1 ∧ cnt + 16 ≤ most)) :
  Calls Tryz.prog 91 #[ptrV p, .int .i64 root, strV key, strV v] w (PutGP p c most M cnt ids (insP key v ps) (n + 1) w) := by
 obtain ⟨⟨k, S, hT, hH⟩, hnd, hsh⟩ := ht
 have hk8 := hH.high17 hn
 have hroom : cnt + 2 * k + 16 ≤ most := by
  rcases hroom with h1 | ⟨h1, h2⟩
  ·omega
  ·have := hT.low h1
   omega
 obtain ⟨P, lid, items, hway, hPl⟩ := hT.way key (by omega)
 have hPn := hway.trail.once hT.tree hnd
 obtain ⟨hri, hli, ps', old, hps', hold, hlaw⟩ := put_lawG (v := v) hT hH hway.trail
 have hat := hway.at
 have hkey := isKey_any key w (by omega)
 have e1 : decide (1 ≤ key.length) = true := by simpa using hk1
 have e2 : decide (key.length ≤ 40) = true := by simpa using hk2
 rw [e1, e2] at hkey
 have hnv2 : ¬ (2000 : Int) < (v.length : Int) := by omega
 have HKey := Hdz hkey
 have HWay := Hdz (way_ok root key P lid items w h hway)
 have HL := Hdz (Anz hT (Anz hnd (Anz hsh (Anz hri (Anz hli (Anz hps' (Anz hold (Anz hlaw (Anz hat (Anz h hway))))))))))
 clear hkey e1 e2 hT hnd hsh hri hli hps' hold hlaw hat h hway
 go_enter Tryz.func91, Tryz.ntmps91
 go_wp2_with (fail)
 go_must (refine HKey.out.mono ?_)
 rintro e w0 ⟨rfl, rfl⟩
 go_wp2_with (fail)
 go_must (refine HWay.out.mono ?_)
 rintro e w1 ⟨pv, st, vi, rfl, hstp, hgh, hsteps, hIt, hb1⟩
 obtain ⟨Ap, cp, rfl, _⟩ := Sl.of_own hstp
 unfold OwnsI at hIt
 obtain ⟨Ai, ci, rfl, _⟩ := Sl.of_own hIt
 obtain ⟨hT, hnd, hsh, hri, hli, hps', hold, hlaw, hat, h, hway⟩ := HL.out
 have hz1 := hb1.size
 have hz0 := h.lt
 -- the work
 obtain ⟨W2, hW2e⟩ : ∃ W2, W2 = (w1.alloc (.cells #[.int .i64 lid] 3)).alloc (.cells #[ptrV p, .slice none 0 0, .slice (some ⟨w1.heap.size, 0, none⟩) 1 1] 235) := ⟨_, rfl⟩
 have hb12 : Below w1.heap.size w1 W2 := by rw [hW2e]; exact ((Below.refl _ w1).alloc (Nat.le_refl _) _).alloc (by simp) _
 have hz2 : W2.heap.size = w1.heap.size + 2 := by rw [hW2e]; simp
 have hpg2 := (h.below hb1).below hb12
 have hwk : WkOk W2 p ⟨c, w1.heap.size + 1, .slice none 0 0, .slice (some ⟨w1.heap.size, 0, none⟩) 1 1⟩ most M cnt [] [lid] := by
  refine ⟨hpg2, ?_, (fun e => by have h5 := hz0 (w1.heap.size + 1) e; omega), World.ownsRow_nil _ _ _ _, ?_, (fun j hj => by cases hj), (fun j hj e => ?_), (fun j hj => by cases hj)⟩
  ·rw [hW2e]; exact Blk.new' (by simp)
  ·rw [hW2e]
   exact own_below (own_base (own_of (heap_alloc_new w1 _) (Nat.le_refl _) (Nat.le_refl _) (by unfold maxLen; omega) rfl rfl (fun j hj => by
    match j with
    | 0 => rfl
    | j + 1 => omega)) (Nat.zero_le _)) ((Below.refl _ _).alloc (Nat.le_refl _) _)
  ·simp only [Value.ownBlock, Option.some.injEq] at hj
   have := hz0 _ e
   omega
 have htrk : Trk c p w1.heap.size w1 W2 ⟨c, w1.heap.size + 1, .slice none 0 0, .slice (some ⟨w1.heap.size, 0, none⟩) 1 1⟩ := by
  refine ⟨Keeps.of_below hb12, ?_, by omega, rfl, rfl, rfl⟩
  rintro j (e | e | e | e)
  ·exact .inl e
  ·simp only at e; exact .inr (by omega)
  ·cases e
  ·simp only [Value.ownBlock, Option.some.injEq] at e
   exact .inr (by omega)
 have hits : ∀ (W : World) (x : Wc), Trk c p w1.heap.size w1 W x → Sl W 4 (.slice Ai items.length ci) items.length (itemsCs items) := fun W x ht =>
  Sl.of_own (own_keeps hIt ht.keeps fun j hj e => by
   have := hIt.lt j hj
   rcases e with e | e
   ·have := hz0 j e; omega
   ·omega)
 have hil : items.length ≤ 240 := by have := layI_ge items; omega
 have HOld := Hdz (old_any Ai items.length ci items key ps' old hwk (hits _ _ htrk) (by omega) hri hold (fun q hq => hsh q (hps' q hq)) (by simp))
 have HIt := Hdz hits
 have HTrk := Hdz htrk
 have HS := Hdz (Anz hstp (Anz hgh (Anz hsteps (Anz hIt hb1))))
 have HW2e := Hdz hW2e
 have HZ := Hdz hz0
 clear hstp hgh hsteps hIt hb1 hT hnd hsh hri hli hps' hold hlaw hat h hway hwk htrk hits hpg2 hb12 hW2e hz0
 go_wp2_with (fail)
 rw [← HW2e.out]
 go_must (refine HOld.out.mono ?_)
 rintro e w3 ⟨rfl, x1, hw1, hk1'⟩
 have htrk := HTrk.out.step hk1'
 have HItem := Hdz (item_any key v hw1 hk1 hk2 hv (by omega) (by simp))
 have hx1b := hk1'.same
 simp only at hx1b
 have HTrk := Hdz htrk
 clear hw1 hk1' htrk
 rw [hx1b] at HItem
 go_wp2_with (fail)
 go_must (refine HItem.out.mono ?_)
 rintro e w4 ⟨it, x2, Mc, newc, rfl, hit1, hit2, hgr, hva, hn9, hw2, hk2'⟩
 have htrk := HTrk.out.step hk2'
 have hx2b := hk2'.same.trans hx1b
 obtain ⟨hT, hnd, hsh, hri, hli, hps', hold, hlaw, hat, h, hway⟩ := HL.out
 obtain ⟨hfI, hlaw2⟩ := hlaw Mc it newc hit1 hit2 hgr hva
 have hbo : Below w4.heap.size w4 (w4.alloc (.cells #[strV it.key, strV it.val, .int .i64 it.over, .int .i64 it.size] 223)) := (Below.refl _ w4).alloc (Nat.le_refl _) _
 have htrk5 := htrk.below hbo
 have hSet := setI_any Ai items.length ci items it _ (HIt.out _ _ htrk5) (by omega) hri
 have hnS : (setI items it).length ≤ items.length + 1 := by
  unfold setI
  simp only [List.length_append, List.length_cons, List.length_take, List.length_drop]
  have := ahead_le it.key items
  split <;> omega
 have bn : Blk (w4.alloc (.cells #[strV it.key, strV it.val, .int .i64 it.over, .int .i64 it.size] 223)) w4.heap.size 223 #[strV it.key, strV it.val, .int .i64 it.over, .int .i64 it.size] := Blk.new _ _ _
 have b0 : (w4.alloc (.cells #[strV it.key, strV it.val, .int .i64 it.over, .int .i64 it.size] 223)).cell? ⟨w4.heap.size, 0, none⟩ = some (strV it.key) := bn.cell 0
 have b1 : (w4.alloc (.cells #[strV it.key, strV it.val, .int .i64 it.over, .int .i64 it.size] 223)).cell? ⟨w4.heap.size, 1, none⟩ = some (strV it.val) := bn.cell 1
 have b2 : (w4.alloc (.cells #[strV it.key, strV it.val, .int .i64 it.over, .int .i64 it.size] 223)).cell? ⟨w4.heap.size, 2, none⟩ = some (.int .i64 it.over) := bn.cell 2
 have b3 : (w4.alloc (.cells #[strV it.key, strV it.val, .int .i64 it.over, .int .i64 it.size] 223)).cell? ⟨w4.heap.size, 3, none⟩ = some (.int .i64 it.size) := bn.cell 3
 have HSet := Hdz hSet
 have HA := Hdz (Anz hlaw2 (Anz hfI (Anz hgr (Anz hw2 (Anz htrk hn9)))))
 have HX2 := Hdz hx2b
 clear hT hnd hsh hri hli hps' hold hlaw hat h hway hlaw2 hgr hva hw2 hk2' htrk htrk5 hSet hbo bn hit1 hit2 HOld HItem HTrk hfI hx2b hx1b
 go_wp2_with (fail)
 go_must (refine HSet.out.mono ?_)
 rintro e w5 ⟨v5, rfl, own5, hb5⟩
 obtain ⟨A5, c5, rfl, _⟩ := Sl.of_own own5
 obtain ⟨hlaw2, hfI, hgr, hw2, htrk, hn9'⟩ := HA.out
 have hb45 : Below w4.heap.size w4 w5 := ((Below.refl _ w4).alloc (Nat.le_refl _) _).trans (hb5.mono (by simp))
 have hLv := leaves_any A5 (setI items it).length c5 (setI items it) (hw2.below hb45) (Sl.of_own own5) hfI (by omega) (by omega) (by simp; omega)
 rw [HX2.out] at hLv
 have htrk := htrk.below hb45
 have hsz5 : w1.heap.size ≤ w5.heap.size := htrk.size
 have HLv := Hdz hLv
 have HA := Hdz (Anz hlaw2 (Anz hgr htrk))
 clear hLv htrk hlaw2 hfI hgr hw2 hb45 hb5 own5 hn9' b0 b1 b2 b3
 go_wp2_with (fail)
 go_must (refine HLv.out.mono ?_)
 rintro e w6 ⟨kids, M1, new1, x3, kv, rfl, hLd, ownk, nsk, hw3, hk3'⟩
 obtain ⟨hlaw2, hgr, htrk⟩ := HA.out
 have htrk := htrk.step hk3'
 have hx3b := hk3'.same.trans HX2.out
 obtain ⟨hFit, hkf, hfin⟩ := hlaw2 kids M1 new1 hLd
 obtain ⟨hT, hnd, hsh, hri, hli, hps', hold, hlaw, hat, h, hway⟩ := HL.out
 obtain ⟨hstp, hgh, hsteps, hIt, hb1⟩ := HS.out
 unfold OwnsC at ownk
 obtain ⟨Ak, ck, rfl, _⟩ := Sl.of_own ownk
 have hz0 := HZ.out
 -- what was made by 'way' lies as it was
 have hkeep : ∀ j, w.heap.size ≤ j → j < w1.heap.size → ¬ (c.S p j ∨ w1.heap.size ≤ j) := fun j h1 h2 e => by
  rcases e with e | e
  ·have := hz0 j e; omega
  ·omega
 have hst6 := own_base (own_keeps hstp htrk.keeps fun j hj => hkeep j (hstp.lt j hj).1 (hstp.lt j hj).2) (Nat.zero_le _)
 have hstk : StepsOk w6 0 st := fun s hs => ⟨own_base (own_keeps (hsteps s hs).1 htrk.keeps fun j hj => hkeep j ((hsteps s hs).1.lt j hj).1 ((hsteps s hs).1.lt j hj).2) (Nat.zero_le _), (hsteps s hs).2⟩
 have hnew1 : new1.length ≤ 2 := by
  rcases hLd with ⟨_, _, _, _, _, _, _, rfl⟩ | ⟨_, _, _, _, _, _, _, _, _, _, _, _, _, _, _, rfl⟩ <;> simp
 have hAk : Ak = none → ck = 0 := by
  rcases ownk.2 with ⟨e, _⟩ | ⟨_, _, _, e, _⟩
  ·simp only [Value.slice.injEq] at e
   exact fun _ => e.2.2
  ·simp only [Value.slice.injEq] at e
   rw [e.1]
   exact fun h => by cases h
 have hw3' : WkOk w6 p x3 most M1 (cnt + (newc ++ new1).length) ([] ++ newc ++ new1) ([lid] ++ old) := by
  rw [List.length_append, ← Nat.add_assoc]
  exact hw3
 have hfin' : ∀ root M' new drp, EndG M1 kids P.reverse root M' new drp → Grow M M' ((newc ++ new1) ++ new) ∧ ∃ k' ids' S', TopAt M' k' root (insP key v ps) ids' ∧ Hist M' k' root S' (n + 1) ∧ (ids' ++ drp ++ ([lid] ++ old) ++ P.reverse.map (fun z : Int × Nat × List Child => z.1)).Perm (ids ++ (newc ++ new1) ++ new) := fun r M' nw dr he => hfin r M' nw dr he
 have hUp := upend_ok h hnd hT.tree.there (insP_short hsh hv) hk8 hFit hkf.g hfin' hgh hPl hPn hat hst6 (fun j hj => hstp.lt j hj) hstk (fun s hs j hj => (hsteps s hs).1.lt j hj) hb1 htrk hw3' (own_base ownk (Nat.zero_le _)) (fun j hj => Nat.le_trans hsz5 (ownk.lt j hj).1) nsk hAk (by rw [List.length_append]; omega) hroom (by simp; omega) (by
   have := old_len hold (fun q hq => hsh q (hps' q hq))
   simp only [List.length_append, List.length_cons, List.length_nil]
   omega) hil0
 rw [hx3b] at hUp
 have HUp := Hdz hUp
 clear hUp hfin' hFit hfin hgr htrk hnew1 nsk hlaw2 hLd hw3 hw3' hk3' hkf hAk hT hnd hsh hri hli hps' hold hlaw hat h hway hstp hgh hsteps hIt hb1 hz0 hkeep hst6 hstk ownk hx3b
 go_wp2_with (fail)
 go_must (refine HUp.out.mono ?_)
 rintro e w7 ⟨root', rfl, hE7⟩
 have HE7 := Hdz hE7
 clear hE7
 go_wp2_with (fail)
 go_must (refine HE7.out.mono ?_)
 rintro e w8 ⟨rfl, hE⟩
 have HE := Hdz hE
 clear hE
 go_wp2_with (fail)
 refine bodyPost_ret (v := .tuple #[.int .i64 root', .int .i64 0]) (by simp [results, Tryz.results91, go_sem]) rfl ?_
 exact HE.out
end
section
variable {p most cnt : Nat} {c : Pc} {x : Wc} {M : Store} {made dropped : List Int} {w : World}
theorem treeDelG_ok (root : Int) (key : Bytes) (ps : List Pair) (ids : List Int) (n : Nat) (h : PgOk w p c most M cnt) (ht : TreeH M root ps ids n) (hk1 : 1 ≤ key.length) (hk2 : key.length ≤ 40) (hin : (getP key ps).isSome = true) (hn : n ≤ 20000) (hil0 : ids.length ≤ 90000) (hroom : cnt + 50 ≤ most ∨ (ps.length ≤ 1 ∧ cnt + 16 ≤ most)) :
  Calls Tryz.prog 139 #[ptrV p, .int .i64 root, strV key] w (PutGP p c most M cnt ids (delP key ps) n w) := by
 obtain ⟨⟨k, S, hT, hH⟩, hnd, hsh⟩ := ht
 have hk8 := hH.high17 hn
 have hroom : cnt + 2 * k + 16 ≤ most := by
  rcases hroom with h1 | ⟨h1, h2⟩
  ·omega
  ·have := hT.low h1
   omega
 obtain ⟨P, lid, items, hway, hPl⟩ := hT.way key (by omega)
 have hPn := hway.trail.once hT.tree hnd
 obtain ⟨hri, hli, ps', old, hps', hold, hia, hrd, hld, hlaw⟩ := del_lawG hT hH hway.trail
 rw [hin] at hia
 have hat := hway.at
 have hil : items.length ≤ 240 := by have := layI_ge items; omega
 have hdl : (delI items key).length ≤ 240 := by have := layI_ge (delI items key); omega
 have hkey := isKey_any key w (by omega)
 have e1 : decide (1 ≤ key.length) = true := by simpa using hk1
 have e2 : decide (key.length ≤ 40) = true := by simpa using hk2
 rw [e1, e2] at hkey
 have HKey := Hdz hkey
 have HWay := Hdz (way_ok root key P lid items w h hway)
 have HL := Hdz (Anz hT (Anz hnd (Anz hsh (Anz hri (Anz hps' (Anz hold (Anz hia (Anz hrd (Anz hld (Anz hlaw (Anz hat (Anz h hPn))))))))))))
 clear hkey e1 e2 hT hnd hsh hri hli hps' hold hia hrd hld hlaw hat h hway hPn hH hin
 go_enter Tryz.func139, Tryz.ntmps139
 go_wp2_with (fail)
 go_must (refine HKey.out.mono ?_)
 rintro e w0 ⟨rfl, rfl⟩
 go_wp2_with (fail)
 go_must (refine HWay.out.mono ?_)
 rintro e w1 ⟨pv, st, vi, rfl, hstp, hgh, hsteps, hIt, hb1⟩
 obtain ⟨Ap, cp, rfl, _⟩ := Sl.of_own hstp
 unfold OwnsI at hIt
 obtain ⟨Ai, ci, rfl, _⟩ := Sl.of_own hIt
 obtain ⟨hT, hnd, hsh, hri, hps', hold, hia, hrd, hld, hlaw, hat, h, hPn⟩ := HL.out
 have hF := findI_any Ai items.length ci items key w1 (Sl.of_own hIt) (by omega) hri
 rw [hia] at hF
 have HF := Hdz hF
 have HS := Hdz (Anz hstp (Anz hgh (Anz hsteps (Anz hIt hb1))))
 clear hstp hgh hsteps hIt hb1 hT hnd hsh hri hps' hold hia hrd hld hlaw hat h hPn hF
 go_wp2_with (fail)
 go_must (refine HF.out.mono ?_)
 rintro e w2 ⟨rfl, hb2⟩
 obtain ⟨hT, hnd, hsh, hri, hps', hold, hia, hrd, hld, hlaw, hat, h, hPn⟩ := HL.out
 obtain ⟨hstp, hgh, hsteps, hIt, hb1⟩ := HS.out
 have hz1 := hb1.size
 have hz2 := hb2.size
 have hz0 := h.lt
 -- the work
 obtain ⟨W2, hW2e⟩ : ∃ W2, W2 = (w2.alloc (.cells #[.int .i64 lid] 3)).alloc (.cells #[ptrV p, .slice none 0 0, .slice (some ⟨w2.heap.size, 0, none⟩) 1 1] 235) := ⟨_, rfl⟩
 have hb22 : Below w2.heap.size w2 W2 := by rw [hW2e]; exact ((Below.refl _ w2).alloc (Nat.le_refl _) _).alloc (by simp) _
 have hzW : W2.heap.size = w2.heap.size + 2 := by rw [hW2e]; simp
 have hb02 : Below w.heap.size w w2 := hb1.trans (hb2.mono hz1)
 have hpg2 := (h.below hb02).below hb22
 have hwk : WkOk W2 p ⟨c, w2.heap.size + 1, .slice none 0 0, .slice (some ⟨w2.heap.size, 0, none⟩) 1 1⟩ most M cnt [] [lid] := by
  refine ⟨hpg2, ?_, (fun e => by have h5 := hz0 (w2.heap.size + 1) e; omega), World.ownsRow_nil _ _ _ _, ?_, (fun j hj => by cases hj), (fun j hj e => ?_), (fun j hj => by cases hj)⟩
  ·rw [hW2e]; exact Blk.new' (by simp)
  ·rw [hW2e]
   exact own_below (own_base (own_of (heap_alloc_new w2 _) (Nat.le_refl _) (Nat.le_refl _) (by unfold maxLen; omega) rfl rfl (fun j hj => by
    match j with
    | 0 => rfl
    | j + 1 => omega)) (Nat.zero_le _)) ((Below.refl _ _).alloc (Nat.le_refl _) _)
  ·simp only [Value.ownBlock, Option.some.injEq] at hj
   have := hz0 _ e
   omega
 have htrk : Trk c p w2.heap.size w2 W2 ⟨c, w2.heap.size + 1, .slice none 0 0, .slice (some ⟨w2.heap.size, 0, none⟩) 1 1⟩ := by
  refine ⟨Keeps.of_below hb22, ?_, by omega, rfl, rfl, rfl⟩
  rintro j (e | e | e | e)
  ·exact .inl e
  ·simp only at e; exact .inr (by omega)
  ·cases e
  ·simp only [Value.ownBlock, Option.some.injEq] at e
   exact .inr (by omega)
 have hIt2 := own_below hIt hb2
 have hst2 := own_below hstp hb2
 have hkeep : ∀ j, w.heap.size ≤ j → j < w2.heap.size → ¬ (c.S p j ∨ w2.heap.size ≤ j) := fun j h1 h2 e => by
  rcases e with e | e
  ·have := hz0 j e; omega
  ·omega
 have hits : ∀ (W : World) (x : Wc), Trk c p w2.heap.size w2 W x → Sl W 4 (.slice Ai items.length ci) items.length (itemsCs items) := fun W x ht =>
  Sl.of_own (own_keeps hIt2 ht.keeps fun j hj => hkeep j (hIt2.lt j hj).1 (Nat.lt_of_lt_of_le (hIt.lt j hj).2 hz2))
 have HOld := Hdz (old_any Ai items.length ci items key ps' old hwk (hits _ _ htrk) (by omega) hri hold (fun q hq => hsh q (hps' q hq)) (by simp))
 have HIt := Hdz hits
 have HTrk := Hdz htrk
 have HW2e := Hdz hW2e
 have HZ := Hdz (Anz hz0 (Anz hb02 (Anz hst2 (Anz hkeep hb2))))
 have hzz1 : w.heap.size ≤ w1.heap.size := hz1
 clear hstp hgh hsteps hIt hb1 hb2 hT hnd hsh hri hps' hold hia hrd hld hlaw hat h hPn hwk htrk hits hpg2 hb22 hW2e hz0 hb02 hIt2 hst2 hkeep hz1
 go_wp2_with (fail)
 rw [← HW2e.out]
 go_must (refine HOld.out.mono ?_)
 rintro e w3 ⟨rfl, x1, hw1, hk1'⟩
 have htrk := HTrk.out.step hk1'
 have hx1b := hk1'.same
 simp only at hx1b
 obtain ⟨hT, hnd, hsh, hri, hps', hold, hia, hrd, hld, hlaw, hat, h, hPn⟩ := HL.out
 have HDel := Hdz (delI_any Ai items.length ci items key w3 (HIt.out _ _ htrk) (by omega) hri)
 have HTr := Hdz htrk
 have HWk := Hdz hw1
 have HX1 := Hdz hx1b
 clear hw1 hk1' htrk hT hnd hsh hri hps' hold hia hrd hld hlaw hat h hPn hx1b
 go_wp2_with (fail)
 go_must (refine HDel.out.mono ?_)
 rintro e w4 ⟨v4, rfl, hown4, hb4⟩
 obtain ⟨A4, c4, rfl, _⟩ := Sl.of_own hown4
 have htrk := HTr.out.below hb4
 have hzs := htrk.size
 have hz23 : w2.heap.size ≤ w3.heap.size := HTr.out.size
 have hshd : Short (delP key ps) := fun q hq => HL.out.2.2.1 q (delP_mem hq)
 by_cases hrest : delI items key = []
 ·have hlen0 : (delI items key).length = 0 := by rw [hrest]; rfl
  rw [hlen0]
  obtain ⟨hT, hnd, hsh, hri, hps', hold, hia, hrd, hld, hlaw, hat, h, hPn⟩ := HL.out
  obtain ⟨hstp, hgh, hsteps, hIt, hb1⟩ := HS.out
  obtain ⟨hz0, hb02, hst2, hkeep, hb12⟩ := HZ.out
  obtain ⟨hFit, hkf, hfin⟩ := hlaw [] M [] (.inl ⟨hrest, rfl, rfl, rfl⟩)
  have hst6 := own_base (own_keeps hst2 htrk.keeps fun j hj => hkeep j (hst2.lt j hj).1 (Nat.lt_of_lt_of_le (hstp.lt j hj).2 hz2)) (Nat.zero_le _)
  have hstk : StepsOk w4 0 st := fun s hs => ⟨own_base (own_keeps (own_below (hsteps s hs).1 hb12) htrk.keeps fun j hj => hkeep j ((hsteps s hs).1.lt j hj).1 (Nat.lt_of_lt_of_le ((hsteps s hs).1.lt j hj).2 hz2)) (Nat.zero_le _), (hsteps s hs).2⟩
  have hUp := upend_ok (N1 := []) (DD := [lid] ++ old) (mm := []) (B := none) (ck := 0) (kids := []) h hnd hT.tree.there hshd hk8 hFit hkf hfin hgh hPl hPn hat hst6 (fun j hj => ⟨(hstp.lt j hj).1, Nat.lt_of_lt_of_le (hstp.lt j hj).2 hz2⟩) hstk (fun s hs j hj => ⟨((hsteps s hs).1.lt j hj).1, Nat.lt_of_lt_of_le ((hsteps s hs).1.lt j hj).2 hz2⟩) hb02 htrk (HWk.out.below hb4) (World.ownsRow_nil _ _ _ _) (fun j hj => by cases hj) (fun j hj => by cases hj) (fun _ => rfl) (by simp) hroom (by simp) (by
   have := old_len hold (fun q hq => hsh q (hps' q hq))
   simp only [List.length_append, List.length_cons, List.length_nil]
   omega) hil0
  rw [HX1.out] at hUp
  simp only [List.length_nil] at hUp
  have HUp := Hdz hUp
  clear hUp hFit hfin hkf htrk hT hnd hsh hshd hri hps' hold hia hrd hld hlaw hat h hPn hstp hgh hsteps hIt hb1 hz0 hb02 hst2 hkeep hb12 hst6 hstk hown4 hb4
  go_wp2_with (fail)
  go_must (refine HUp.out.mono ?_)
  rintro e w7 ⟨root', rfl, hE7⟩
  have HE7 := Hdz hE7
  clear hE7
  go_wp2_with (fail)
  go_must (refine HE7.out.mono ?_)
  rintro e w8 ⟨rfl, hE⟩
  have HE := Hdz hE
  clear hE
  go_wp2_with (fail)
  refine bodyPost_ret (v := .tuple #[.int .i64 root', .int .i64 0]) (by simp [results, Tryz.results139, go_sem]) rfl ?_
  exact HE.out
 ·have hpos := List.length_pos_iff.2 hrest
  have hpos' : (0 : Int) < ((delI items key).length : Int) := by omega
  obtain ⟨hT, hnd, hsh, hri, hps', hold, hia, hrd, hld, hlaw, hat, h, hPn⟩ := HL.out
  obtain ⟨hstp, hgh, hsteps, hIt, hb1⟩ := HS.out
  obtain ⟨hz0, hb02, hst2, hkeep, hb12⟩ := HZ.out
  have hfI : FitI (delI items key) := FitI.of hrd (by omega)
  have hLv := leaves_any A4 (delI items key).length c4 (delI items key) (HWk.out.below hb4) (Sl.of_own hown4) hfI (by omega) (by omega) (by simp)
  rw [HX1.out] at hLv
  have HLv := Hdz hLv
  have HA := Hdz (Anz htrk hshd)
  clear hLv hfI htrk hT hnd hsh hshd hri hps' hold hia hrd hld hlaw hat h hPn hstp hgh hsteps hIt hb1 hz0 hb02 hst2 hkeep hb12 hown4 hb4
  go_wp2_with (fail)
  go_must (refine HLv.out.mono ?_)
  rintro e w6 ⟨kids, M1, new1, x3, kv, rfl, hLd, ownk, nsk, hw3, hk3'⟩
  obtain ⟨htrk, hshd⟩ := HA.out
  have htrk := htrk.step hk3'
  have hx3b := hk3'.same.trans HX1.out
  obtain ⟨hT, hnd, hsh, hri, hps', hold, hia, hrd, hld, hlaw, hat, h, hPn⟩ := HL.out
  obtain ⟨hstp, hgh, hsteps, hIt, hb1⟩ := HS.out
  obtain ⟨hz0, hb02, hst2, hkeep, hb12⟩ := HZ.out
  obtain ⟨hFit, hkf, hfin⟩ := hlaw kids M1 new1 (.inr ⟨hrest, hLd⟩)
  unfold OwnsC at ownk
  obtain ⟨Ak, ck, rfl, _⟩ := Sl.of_own ownk
  have hst6 := own_base (own_keeps hst2 htrk.keeps fun j hj => hkeep j (hst2.lt j hj).1 (Nat.lt_of_lt_of_le (hstp.lt j hj).2 hz2)) (Nat.zero_le _)
  have hstk : StepsOk w6 0 st := fun s hs => ⟨own_base (own_keeps (own_below (hsteps s hs).1 hb12) htrk.keeps fun j hj => hkeep j ((hsteps s hs).1.lt j hj).1 (Nat.lt_of_lt_of_le ((hsteps s hs).1.lt j hj).2 hz2)) (Nat.zero_le _), (hsteps s hs).2⟩
  have hnew1 : new1.length ≤ 2 := by
   rcases hLd with ⟨_, _, _, _, _, _, _, rfl⟩ | ⟨_, _, _, _, _, _, _, _, _, _, _, _, _, _, _, rfl⟩ <;> simp
  have hAk : Ak = none → ck = 0 := by
   rcases ownk.2 with ⟨e, _⟩ | ⟨_, _, _, e, _⟩
   ·simp only [Value.slice.injEq] at e
    exact fun _ => e.2.2
   ·simp only [Value.slice.injEq] at e
    rw [e.1]
    exact fun h => by cases h
  have hUp := upend_ok (DD := [lid] ++ old) h hnd hT.tree.there hshd hk8 hFit hkf hfin hgh hPl hPn hat hst6 (fun j hj => ⟨(hstp.lt j hj).1, Nat.lt_of_lt_of_le (hstp.lt j hj).2 hz2⟩) hstk (fun s hs j hj => ⟨((hsteps s hs).1.lt j hj).1, Nat.lt_of_lt_of_le ((hsteps s hs).1.lt j hj).2 hz2⟩) hb02 htrk hw3 (own_base ownk (Nat.zero_le _)) (fun j hj => Nat.le_trans hzs (ownk.lt j hj).1) nsk hAk (by omega) hroom (by simp; omega) (by
   have := old_len hold (fun q hq => hsh q (hps' q hq))
   simp only [List.length_append, List.length_cons, List.length_nil]
   omega) hil0
  rw [hx3b] at hUp
  have HUp := Hdz hUp
  clear hUp hFit hfin hkf htrk hT hnd hsh hshd hri hps' hold hia hrd hld hlaw hat h hPn hstp hgh hsteps hIt hb1 hz0 hb02 hst2 hkeep hb12 hst6 hstk ownk nsk hw3 hk3' hLd hnew1 hAk hx3b
  go_wp2_with (fail)
  go_must (refine HUp.out.mono ?_)
  rintro e w7 ⟨root', rfl, hE7⟩
  have HE7 := Hdz hE7
  clear hE7
  go_wp2_with (fail)
  go_must (refine HE7.out.mono ?_)
  rintro e w8 ⟨rfl, hE⟩
  have HE := Hdz hE
  clear hE
  go_wp2_with (fail)
  refine bodyPost_ret (v := .tuple #[.int .i64 root', .int .i64 0]) (by simp [results, Tryz.results139, go_sem]) rfl ?_
  exact HE.out
end
end Go.Ev
