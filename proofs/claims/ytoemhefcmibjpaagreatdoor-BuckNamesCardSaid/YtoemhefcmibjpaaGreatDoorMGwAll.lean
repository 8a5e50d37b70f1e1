/-
  tree.walk.leaf: a leaf's keys are told, its chains are met. tree.walk.down: all pages of a tree are met, in the order of the walk; its height, and how many keys. tree.all: all of a tree is walked; tree.Count, tree.Height, tree.Pages.
-/
import Derived.Test.YtoemhefcmibjpaaGreatDoorMEvInsert
import Derived.Test.YtoemhefcmibjpaaGreatDoorMGwCurs4
import Derived.Test.YtoemhefcmibjpaaGreatDoorMGwLoad
import Derived.Test.YtoemhefcmibjpaaGreatDoorMGwKey
import Derived.Test.YtoemhefcmibjpaaGreatDoorMGwPick
import Derived.Lib.MinMaxS
import Derived.Test.YtoemhefcmibjpaaGreatDoorMGwPutT0
import Derived.Test.YtoemhefcmibjpaaGreatDoorMGwBeg2
set_option linter.unusedVariables false
set_option linter.unusedSimpArgs false
set_option linter.unusedVariables false
set_option linter.unusedSimpArgs false
namespace Go.Ev
open Go.Proofs Go.RowKit
section
variable {w w' : World} {p b sb cc most cnt : Nat} {c : Pc} {M : Store} {iv : Value} {ids : List Int} {l : List Ent} {ht ks : Int}
structure SeeK (p b sb : Nat) (iv : Value) (ids : List Int) (ht ks : Int) (w w' : World) : Prop where
 ex : ∃ iv' l' cc', SeeAt w' p b sb iv' ids l' cc' ht ks ∧ ∀ k, iv'.ownBlock = some k → iv.ownBlock = some k ∨ w.heap.size ≤ k
 keeps : Keeps (SeeS b sb iv) w w'
theorem SeeK.below {w3 : World} (h : SeeK p b sb iv ids ht ks w w') (hb : Below w'.heap.size w' w3) : SeeK p b sb iv ids ht ks w w3 := by
 obtain ⟨iv', l', cc', h1, h2⟩ := h.ex
 exact ⟨⟨iv', l', cc', h1.below hb, h2⟩, h.keeps.trans (Keeps.of_below (S := fun _ => False) hb) fun _ _ h => h.elim⟩
theorem SeeK.see {w1 w2 : World} {new : List Int} {A : Option Addr} {n d : Nat} (h : SeeK p b sb iv ids ht ks w w1) (hb : Below w1.heap.size w1 w2) (hlt : ∀ k, SeeS b sb iv k → k < w.heap.size) (hsl : Sl w2 1 (.slice A n d) n (intsV new)) (hA : ∀ g o, A = some ⟨g, o, none⟩ → w1.heap.size ≤ g) (hnd : new.Nodup) (hdis : ∀ j ∈ new, j ∉ ids) (hn : ids.length + new.length ≤ 100000) :
  Calls Tryz.prog 180 #[ptrV b, .slice A n d] w2 fun e w3 => e = .returned (.bool true) ∧ SeeK p b sb iv (ids ++ new) ht ks w w3 := by
 obtain ⟨iv', l', cc', h1, h2⟩ := h.ex
 have hz := h.keeps.size
 refine (see_ok A n d new (h1.below hb) hsl (fun g o e hs => ?_) hnd hdis hn).mono ?_
 ·have q1 := hA g o e
  have q2 := h1.lt g hs
  omega
 ·rintro e w3 ⟨he, iv2, l2, cc2, h3, h4, h5⟩
  refine ⟨he, ⟨iv2, l2, cc2, h3, fun k hk => ?_⟩, (h.keeps.trans (Keeps.of_below (S := fun _ => False) hb) fun _ _ h => h.elim).trans h4 fun i hi e => ?_⟩
  ·rcases h5 k hk with e | e
   ·exact h2 k e
   ·have := hb.size; exact .inr (by omega)
  ·rcases e with e | e | e
   ·exact .inl e
   ·exact .inr (.inl e)
   ·rcases h2 i e with e | e
    ·exact .inr (.inr e)
    ·omega
theorem SeeK.setH {w1 : World} (h : SeeK p b sb iv ids ht ks w w1) (ht' : Int) : SeeK p b sb iv ids ht' ks w (w1.setCell ⟨b, 3, none⟩ (.int .i64 ht')) := by
 obtain ⟨iv', l', cc', h1, h2⟩ := h.ex
 have K : Keeps (fun k => k = b) w1 (w1.setCell ⟨b, 3, none⟩ (.int .i64 ht')) := (Keeps.refl (fun k => k = b) w1).setCell (p := ⟨b, 3, none⟩) (fun _ => rfl) _
 exact ⟨⟨iv', l', cc', ⟨h1.blk.set 3 _, own_keeps h1.row K (own_ne h1.row h1.blk (by decide)), h1.map.keeps K (h1.map.ne h1.blk), h1.mem⟩, h2⟩, h.keeps.trans K fun i hi e => .inl e⟩
theorem SeeK.setN {w1 : World} (h : SeeK p b sb iv ids ht ks w w1) (ks' : Int) : SeeK p b sb iv ids ht ks' w (w1.setCell ⟨b, 4, none⟩ (.int .i64 ks')) := by
 obtain ⟨iv', l', cc', h1, h2⟩ := h.ex
 have K : Keeps (fun k => k = b) w1 (w1.setCell ⟨b, 4, none⟩ (.int .i64 ks')) := (Keeps.refl (fun k => k = b) w1).setCell (p := ⟨b, 4, none⟩) (fun _ => rfl) _
 exact ⟨⟨iv', l', cc', ⟨h1.blk.set 4 _, own_keeps h1.row K (own_ne h1.row h1.blk (by decide)), h1.map.keeps K (h1.map.ne h1.blk), h1.mem⟩, h2⟩, h.keeps.trans K fun i hi e => .inl e⟩
theorem SeeK.cells {w1 : World} (h : SeeK p b sb iv ids ht ks w w1) : w1.cell? ⟨b, 0, none⟩ = some (ptrV p) ∧ w1.cell? ⟨b, 3, none⟩ = some (.int .i64 ht) ∧ w1.cell? ⟨b, 4, none⟩ = some (.int .i64 ks) ∧ w1.frozen? ⟨b, 3, none⟩ = false ∧ w1.frozen? ⟨b, 4, none⟩ = false ∧ b < w1.heap.size := by
 obtain ⟨iv', l', cc', h1, h2⟩ := h.ex
 exact ⟨h1.blk.cell 0, h1.blk.cell 3, h1.blk.cell 4, h1.blk.frozen 3, h1.blk.frozen 4, h1.blk.lt⟩
theorem SeeAt.k (h : SeeAt w p b sb iv ids l cc ht ks) : SeeK p b sb iv ids ht ks w w := ⟨⟨iv, l, cc, h, fun k hk => .inl hk⟩, Keeps.refl _ _⟩
set_option maxHeartbeats 8000000 in
set_option maxRecDepth 100000 in
theorem seeLeaf_ok (A : Option Addr) (n d : Nat) (items : List Item) (ps : List Pair) (ci : List Int) (lo hi' : Bytes) (below : Nat) (h : SeeAt w p b sb iv ids l cc ht ks) (hp : PgOk w p c most M cnt) (hdj : ∀ k, c.S p k → ¬ SeeS b sb iv k) (hsl : Sl w 4 (.slice A n d) n (itemsCs items)) (hA : ∀ g o, A = some ⟨g, o, none⟩ → ¬ SeeS b sb iv g) (hn : n ≤ 1000)
  (hla : LeafAt M items ps ci) (hvs : ∀ q ∈ ps, q.2.length ≤ 2000) (hnd : (ids ++ ci).Nodup) (hids : (ids ++ ci).length ≤ 100000) (hkeys : ∀ x ∈ items, lessB x.key lo = false ∧ (hi' = [] ∨ lessB x.key hi' = true)) (hh : ht = 0 ∨ ht = (below : Int) + 1) (hb : below ≤ 1000) (hks0 : 0 ≤ ks) (hks1 : ks ≤ 100000) :
  Calls Tryz.prog 181 #[ptrV b, .slice A n d, strV lo, strV hi', .int .i64 (below : Int)] w fun e w' => e = .returned (.int .i64 0) ∧ SeeK p b sb iv (ids ++ ci) ((below : Int) + 1) (ks + (items.length : Int)) w w' := by
 have hl := hsl.len4
 subst hl
 have HH := Lib.hid (And.intro hp (And.intro hsl (And.intro hA (And.intro hla (And.intro hvs (And.intro (And.intro hnd hids) (And.intro hkeys (fun k hk e => hdj k hk e))))))))
 obtain ⟨c0, c3, c4, f3, f4, hbl⟩ := h.k.cells
 have hwb : IntKind.i64.wrap ((below : Int) + 1) = (below : Int) + 1 := IntWalk.i64_in _ (by omega)
 have hwk : IntKind.i64.wrap (ks + (items.length : Int)) = ks + (items.length : Int) := IntWalk.i64_in _ (by omega)
 have h0lt := h.lt
 clear hla hvs hnd hids hkeys hdj
 by_cases h0 : ht = 0
 ·subst h0
  have hS1 := h.k.setH ((below : Int) + 1)
  obtain ⟨_, g3, g4, _, f4', _⟩ := hS1.cells
  have HN := Lib.hid (hS1.setN (ks + (items.length : Int)))
  have hne : (((below : Int) + 1) != ((below : Int) + 1)) = false := by simp
  clear hS1
  go_enter Tryz.func181, Tryz.ntmps181
  clear h hp hsl hA
  go_wp2_with (fail)
  go_loopg [43] items.length (fun gk s43 wr => ∃ (i : Nat) (done rest : List Int) (psr : List Pair), s43 = .int .i64 (i : Int) ∧ i + gk = items.length ∧ Hid (ci = done ++ rest ∧ LeafAt M (items.drop i) psr rest ∧ (∀ q ∈ psr, q.2.length ≤ 2000) ∧ SeeK p b sb iv (ids ++ done) ((below : Int) + 1) (ks + (items.length : Int)) w wr))
  case atStart => exact ⟨0, [], ci, ps, rfl, by omega, rfl, HH.out.2.2.2.1, HH.out.2.2.2.2.1, by simpa using HN.out⟩
  case round =>
   obtain ⟨i, done, rest, psr, rfl, hi, hI⟩ := hrel
   by_cases hlt : i < items.length
   ·obtain ⟨hci, hla, hvs, hS⟩ := hI.out
    obtain ⟨hp, hsl, hA, _, _, hcn, hkeys, hdj⟩ := HH.out
    rw [List.drop_eq_getElem_cons hlt] at hla
    obtain ⟨v, ps', i1, i2, rfl, rfl, hval, hla'⟩ := hla
    have hsv : v.length ≤ 2000 := hvs _ (List.mem_cons_self ..)
    have hvs' : ∀ q ∈ ps', q.2.length ≤ 2000 := fun q hq => hvs q (List.mem_cons_of_mem _ hq)
    obtain ⟨hk1, hk2⟩ := hkeys _ (List.getElem_mem hlt)
    have hsl' := hsl.keeps hS.keeps (fun A' m d' g o e1 e2 => hA g o (by cases e1; exact e2))
    obtain ⟨_, _, e0, _, _, hcl⟩ := hsl'
    cases e0
    obtain ⟨blk, o, rfl, hbl, hcell⟩ := hcl (by omega)
    obtain ⟨x0, x2, x1, x3⟩ := item_4 (w := wr) fun j u hu => item_cells (n := items.length) hcell hlt j u hu
    have hp1 := hp.keeps hS.keeps (fun k hk => hdj k hk)
    have hnd2 : i1.Nodup ∧ (∀ j ∈ i1, j ∉ ids ++ done) ∧ (ids ++ done).length + i1.length ≤ 100000 := by
     rw [hci] at hcn
     obtain ⟨h1, h2⟩ := hcn
     simp only [List.nodup_append, List.mem_append, List.length_append] at h1 h2 ⊢
     refine ⟨h1.2.1.2.1.1, fun j hj hm => ?_, by omega⟩
     rcases hm with hm | hm
     ·exact h1.2.2 j hm j (.inr (.inl hj)) rfl
     ·exact h1.2.1.2.2 j hm j (.inl hj) rfl
    have HT := Lib.hid (And.intro hci (And.intro hla' (And.intro hvs' (And.intro hS (And.intro hp1 hnd2)))))
    have hi0 : (0 : Int) ≤ (i : Int) := by omega
    have hlt' : (i : Int) < (items.length : Int) := by omega
    have hw1 : IntKind.i64.wrap ((i : Int) + 1) = (i : Int) + 1 := IntWalk.i64_in _ (by omega)
    have hids := val_len hval hsv
    have HV := Lib.hid hval
    clear hci hla' hvs hvs' hS hp hp1 hnd2 hsl hA hcn hkeys hdj hcl hcell hval
    generalize items[i] = it at *
    obtain ⟨ik, iv0, io, isz⟩ := it
    simp only at x0 x1 x2 x3 hk1 hk2
    obtain ⟨Wx, hWx⟩ : ∃ Wx, Wx = wr.alloc (.cells #[strV ik, strV iv0, .int .i64 io, .int .i64 isz] 96) := ⟨_, rfl⟩
    have hbx : Below wr.heap.size wr Wx := by rw [hWx]; exact (Below.refl _ _).alloc (Nat.le_refl _) _
    have bit : Blk Wx wr.heap.size 96 #[strV ik, strV iv0, .int .i64 io, .int .i64 isz] := by rw [hWx]; exact Blk.new _ _ _
    have t0 : (wr.alloc (.cells #[strV ik, strV iv0, .int .i64 io, .int .i64 isz] 96)).cell? ⟨wr.heap.size, 0, none⟩ = some (strV ik) := by rw [← hWx]; exact bit.cell 0
    have t2 : (wr.alloc (.cells #[strV ik, strV iv0, .int .i64 io, .int .i64 isz] 96)).cell? ⟨wr.heap.size, 2, none⟩ = some (.int .i64 io) := by rw [← hWx]; exact bit.cell 2
    have t3 : (wr.alloc (.cells #[strV ik, strV iv0, .int .i64 io, .int .i64 isz] 96)).cell? ⟨wr.heap.size, 3, none⟩ = some (.int .i64 isz) := by rw [← hWx]; exact bit.cell 3
    have d0 : (wr.alloc (.cells #[strV ik, strV iv0, .int .i64 io, .int .i64 isz] 96)).cell? ⟨b, 0, none⟩ = some (ptrV p) := by rw [← hWx]; exact (HT.out.2.2.2.1.below hbx).cells.1
    have HBx := Lib.hid hbx
    have HWx := Lib.hid hWx
    clear bit hbx hWx
    have hkey2 : (hi' == ([] : Bytes)) = true ∨ ((hi' == ([] : Bytes)) = false ∧ Op.bytesLess ik hi' = true) := by
     rcases hk2 with e | e
     ·exact .inl (by simpa using e)
     ·by_cases e2 : hi' = []
      ·exact .inl (by simpa using e2)
      ·exact .inr ⟨by simpa using e2, e⟩
    have hk1' : Op.bytesLess ik lo = false := hk1
    clear hk1 hk2
    rcases hkey2 with hz | ⟨hz1, hz2⟩
    ·by_cases hio : io = 0
     ·subst hio
      have hR : ci = (done ++ i1) ++ i2 ∧ LeafAt M (items.drop (i + 1)) ps' i2 ∧ (∀ q ∈ ps', q.2.length ≤ 2000) ∧ SeeK p b sb iv (ids ++ (done ++ i1)) ((below : Int) + 1) (ks + (items.length : Int)) w (wr.alloc (.cells #[strV ik, strV iv0, .int .i64 0, .int .i64 isz] 96)) := by
       obtain ⟨a1, a2, a3, a4, _⟩ := HT.out
       obtain ⟨_, _, rfl⟩ | ⟨h, _⟩ := HV.out
       ·exact ⟨by rw [a1]; simp, a2, a3, by rw [List.append_nil]; rw [← HWx.out]; exact a4.below HBx.out⟩
       ·exact absurd rfl h
      have HR := Lib.hid hR
      clear hR
      go_wp2_with (fail)
      go_roundg (gk - 1)
      case measure => omega
      case rel => exact ⟨i + 1, done ++ i1, i2, ps', by simp, by omega, HR.out⟩
     ·obtain ⟨vl, hvl⟩ : ∃ m, v.length = m := ⟨_, rfl⟩
      have hisz : isz = (vl : Int) := by
       obtain ⟨h, _⟩ | ⟨_, _, h⟩ := HV.out
       ·exact absurd h hio
       ·have h2 : (v.length : Int) = isz := h
        omega
      subst hisz
      have hio' : (io == 0) = false := by simpa using hio
      have HPg : Hid (∀ W, Below wr.heap.size wr W → Calls Tryz.prog 78 #[ptrV p, .int .i64 io, .int .i64 (vl : Int)] W fun e w' => ∃ r, e = .returned (.tuple #[r, .int .i64 0]) ∧ w'.ownsRow W.heap.size 3 1 r i1.length (intsV i1) ∧ Below W.heap.size W w') := fun W hW => by
       obtain ⟨h, _⟩ | ⟨_, h, _⟩ := HV.out
       ·exact absurd h hio
       ·have := overPages_ok io v i1 W (HT.out.2.2.2.2.1.below hW) h hsv (by omega)
        rw [hvl] at this
        exact this
      clear hvl hio
      go_wp2_with (fail)
      refine wp_region_any (by kernel_rfl) ?_
      change wpAny _ _ _ _ _ _ _ (World.drew _)
      try simp only [Act.put, lT, l0, lS]
      refine tA 0 ?_; try simp only [Act.put, lT, l0, lS]
      refine tA 1 ?_; try simp only [Act.put, lT, l0, lS]
      refine tA 2 ?_; try simp only [Act.put, lT, l0, lS]
      refine tA 4 ?_; try simp only [Act.put, lT, l0, lS]
      refine tA 6 ?_; try simp only [Act.put, lT, l0, lS]
      try simp only [Act.put, lT, l0, lS]
      refine rA 3 (v := ?_) (hy := ?hy) ?_; case hy => (intro w hE; have q0 := hE.cell d0; go_simp; try with_reducible rfl)
      try simp only [Act.put, lT, l0, lS]
      try simp only [Act.put, lT, l0, lS]
      refine rA 5 (v := ?_) (hy := ?hy) ?_; case hy => (intro w hE; have q0 := hE.cell t2; go_simp; try with_reducible rfl)
      try simp only [Act.put, lT, l0, lS]
      try simp only [Act.put, lT, l0, lS]
      refine rA 7 (v := ?_) (hy := ?hy) ?_; case hy => (intro w hE; have q0 := hE.cell t3; go_simp; try with_reducible rfl)
      try simp only [Act.put, lT, l0, lS]
      refine rd 8 (by kernel_rfl) rfl (fun K hK => ?_); go_simp
      (go_at_call 78; go_must (refine (HPg.out _ (by rw [← HWx.out]; exact HBx.out.drew)).mono ?_); rintro e w2 ⟨r, rfl, hown2, hb2⟩)
      obtain ⟨A2, c2, rfl, _⟩ := Sl.of_own hown2
      go_simp
      refine hK _ _ ?_
      clear hK K
      try simp only [Act.put, lT, l0, lS]
      refine tA 9 ?_; try simp only [Act.put, lT, l0, lS]
      refine tA 10 ?_; try simp only [Act.put, lT, l0, lS]
      refine tA 11 ?_; try simp only [Act.put, lT, l0, lS]
      refine tA 12 ?_; try simp only [Act.put, lT, l0, lS]
      refine tA 13 ?_; try simp only [Act.put, lT, l0, lS]
      refine wpAny_done (by kernel_rfl) ?_ _
      obtain ⟨a1, a2, a3, a4, a5, a6, a7, a8⟩ := HT.out
      have hbw2 : Below wr.heap.size wr w2 := by
       have h1 := HBx.out.drew
       rw [HWx.out] at h1
       exact h1.trans (hb2.mono (by simp))
      have HSee := Lib.hid (a4.see (new := i1) hbw2 (fun k hk => h0lt k hk) (Sl.of_own hown2) (fun g o e => by
       subst e
       have := (hown2.lt g rfl).1
       simp at this
       omega) a6 a7 a8)
      have HCi := Lib.hid (And.intro a1 (And.intro a2 a3))
      clear a1 a2 a3 a4 a5 a6 a7 a8 hbw2 hown2 hb2
      go_wp2_with (fail)
      go_must (refine HSee.out.mono ?_)
      rintro e w3 ⟨rfl, hS3⟩
      have HS3 := Lib.hid hS3
      clear hS3
      go_wp2_with (fail)
      go_roundg (gk - 1)
      case measure => omega
      case rel => exact ⟨i + 1, done ++ i1, i2, ps', by simp, by omega, by rw [HCi.out.1]; simp, HCi.out.2.1, HCi.out.2.2, by rw [← List.append_assoc]; exact HS3.out⟩
    ·by_cases hio : io = 0
     ·subst hio
      have hR : ci = (done ++ i1) ++ i2 ∧ LeafAt M (items.drop (i + 1)) ps' i2 ∧ (∀ q ∈ ps', q.2.length ≤ 2000) ∧ SeeK p b sb iv (ids ++ (done ++ i1)) ((below : Int) + 1) (ks + (items.length : Int)) w (wr.alloc (.cells #[strV ik, strV iv0, .int .i64 0, .int .i64 isz] 96)) := by
       obtain ⟨a1, a2, a3, a4, _⟩ := HT.out
       obtain ⟨_, _, rfl⟩ | ⟨h, _⟩ := HV.out
       ·exact ⟨by rw [a1]; simp, a2, a3, by rw [List.append_nil]; rw [← HWx.out]; exact a4.below HBx.out⟩
       ·exact absurd rfl h
      have HR := Lib.hid hR
      clear hR
      go_wp2_with (fail)
      go_roundg (gk - 1)
      case measure => omega
      case rel => exact ⟨i + 1, done ++ i1, i2, ps', by simp, by omega, HR.out⟩
     ·obtain ⟨vl, hvl⟩ : ∃ m, v.length = m := ⟨_, rfl⟩
      have hisz : isz = (vl : Int) := by
       obtain ⟨h, _⟩ | ⟨_, _, h⟩ := HV.out
       ·exact absurd h hio
       ·have h2 : (v.length : Int) = isz := h
        omega
      subst hisz
      have hio' : (io == 0) = false := by simpa using hio
      have HPg : Hid (∀ W, Below wr.heap.size wr W → Calls Tryz.prog 78 #[ptrV p, .int .i64 io, .int .i64 (vl : Int)] W fun e w' => ∃ r, e = .returned (.tuple #[r, .int .i64 0]) ∧ w'.ownsRow W.heap.size 3 1 r i1.length (intsV i1) ∧ Below W.heap.size W w') := fun W hW => by
       obtain ⟨h, _⟩ | ⟨_, h, _⟩ := HV.out
       ·exact absurd h hio
       ·have := overPages_ok io v i1 W (HT.out.2.2.2.2.1.below hW) h hsv (by omega)
        rw [hvl] at this
        exact this
      clear hvl hio
      go_wp2_with (fail)
      refine wp_region_any (by kernel_rfl) ?_
      change wpAny _ _ _ _ _ _ _ (World.drew _)
      try simp only [Act.put, lT, l0, lS]
      refine tA 0 ?_; try simp only [Act.put, lT, l0, lS]
      refine tA 1 ?_; try simp only [Act.put, lT, l0, lS]
      refine tA 2 ?_; try simp only [Act.put, lT, l0, lS]
      refine tA 4 ?_; try simp only [Act.put, lT, l0, lS]
      refine tA 6 ?_; try simp only [Act.put, lT, l0, lS]
      try simp only [Act.put, lT, l0, lS]
      refine rA 3 (v := ?_) (hy := ?hy) ?_; case hy => (intro w hE; have q0 := hE.cell d0; go_simp; try with_reducible rfl)
      try simp only [Act.put, lT, l0, lS]
      try simp only [Act.put, lT, l0, lS]
      refine rA 5 (v := ?_) (hy := ?hy) ?_; case hy => (intro w hE; have q0 := hE.cell t2; go_simp; try with_reducible rfl)
      try simp only [Act.put, lT, l0, lS]
      try simp only [Act.put, lT, l0, lS]
      refine rA 7 (v := ?_) (hy := ?hy) ?_; case hy => (intro w hE; have q0 := hE.cell t3; go_simp; try with_reducible rfl)
      try simp only [Act.put, lT, l0, lS]
      refine rd 8 (by kernel_rfl) rfl (fun K hK => ?_); go_simp
      (go_at_call 78; go_must (refine (HPg.out _ (by rw [← HWx.out]; exact HBx.out.drew)).mono ?_); rintro e w2 ⟨r, rfl, hown2, hb2⟩)
      obtain ⟨A2, c2, rfl, _⟩ := Sl.of_own hown2
      go_simp
      refine hK _ _ ?_
      clear hK K
      try simp only [Act.put, lT, l0, lS]
      refine tA 9 ?_; try simp only [Act.put, lT, l0, lS]
      refine tA 10 ?_; try simp only [Act.put, lT, l0, lS]
      refine tA 11 ?_; try simp only [Act.put, lT, l0, lS]
      refine tA 12 ?_; try simp only [Act.put, lT, l0, lS]
      refine tA 13 ?_; try simp only [Act.put, lT, l0, lS]
      refine wpAny_done (by kernel_rfl) ?_ _
      obtain ⟨a1, a2, a3, a4, a5, a6, a7, a8⟩ := HT.out
      have hbw2 : Below wr.heap.size wr w2 := by
       have h1 := HBx.out.drew
       rw [HWx.out] at h1
       exact h1.trans (hb2.mono (by simp))
      have HSee := Lib.hid (a4.see (new := i1) hbw2 (fun k hk => h0lt k hk) (Sl.of_own hown2) (fun g o e => by
       subst e
       have := (hown2.lt g rfl).1
       simp at this
       omega) a6 a7 a8)
      have HCi := Lib.hid (And.intro a1 (And.intro a2 a3))
      clear a1 a2 a3 a4 a5 a6 a7 a8 hbw2 hown2 hb2
      go_wp2_with (fail)
      go_must (refine HSee.out.mono ?_)
      rintro e w3 ⟨rfl, hS3⟩
      have HS3 := Lib.hid hS3
      clear hS3
      go_wp2_with (fail)
      go_roundg (gk - 1)
      case measure => omega
      case rel => exact ⟨i + 1, done ++ i1, i2, ps', by simp, by omega, by rw [HCi.out.1]; simp, HCi.out.2.1, HCi.out.2.2, by rw [← List.append_assoc]; exact HS3.out⟩
   ·have hii : i = items.length := by omega
    have HE : Hid (SeeK p b sb iv (ids ++ ci) ((below : Int) + 1) (ks + (items.length : Int)) w wr) := by
     obtain ⟨hci, hla, _, hS⟩ := hI.out
     rw [hii, List.drop_length] at hla
     obtain ⟨_, rfl⟩ := hla
     rw [List.append_nil] at hci
     rw [hci]
     exact hS
    have hlt' : ¬ (i : Int) < (items.length : Int) := by omega
    clear hlt hI
    go_wp2_with (fail)
    go_ret
    exact ⟨rfl, HE.out⟩
 ·obtain rfl := hh.resolve_left h0
  have h0' : (((below : Int) + 1) == 0) = false := by simpa using h0
  have HN := Lib.hid (h.k.setN (ks + (items.length : Int)))
  go_enter Tryz.func181, Tryz.ntmps181
  clear h hp hsl hA
  go_wp2_with (fail)
  go_loopg [43] items.length (fun gk s43 wr => ∃ (i : Nat) (done rest : List Int) (psr : List Pair), s43 = .int .i64 (i : Int) ∧ i + gk = items.length ∧ Hid (ci = done ++ rest ∧ LeafAt M (items.drop i) psr rest ∧ (∀ q ∈ psr, q.2.length ≤ 2000) ∧ SeeK p b sb iv (ids ++ done) ((below : Int) + 1) (ks + (items.length : Int)) w wr))
  case atStart => exact ⟨0, [], ci, ps, rfl, by omega, rfl, HH.out.2.2.2.1, HH.out.2.2.2.2.1, by simpa using HN.out⟩
  case round =>
   obtain ⟨i, done, rest, psr, rfl, hi, hI⟩ := hrel
   by_cases hlt : i < items.length
   ·obtain ⟨hci, hla, hvs, hS⟩ := hI.out
    obtain ⟨hp, hsl, hA, _, _, hcn, hkeys, hdj⟩ := HH.out
    rw [List.drop_eq_getElem_cons hlt] at hla
    obtain ⟨v, ps', i1, i2, rfl, rfl, hval, hla'⟩ := hla
    have hsv : v.length ≤ 2000 := hvs _ (List.mem_cons_self ..)
    have hvs' : ∀ q ∈ ps', q.2.length ≤ 2000 := fun q hq => hvs q (List.mem_cons_of_mem _ hq)
    obtain ⟨hk1, hk2⟩ := hkeys _ (List.getElem_mem hlt)
    have hsl' := hsl.keeps hS.keeps (fun A' m d' g o e1 e2 => hA g o (by cases e1; exact e2))
    obtain ⟨_, _, e0, _, _, hcl⟩ := hsl'
    cases e0
    obtain ⟨blk, o, rfl, hbl, hcell⟩ := hcl (by omega)
    obtain ⟨x0, x2, x1, x3⟩ := item_4 (w := wr) fun j u hu => item_cells (n := items.length) hcell hlt j u hu
    have hp1 := hp.keeps hS.keeps (fun k hk => hdj k hk)
    have hnd2 : i1.Nodup ∧ (∀ j ∈ i1, j ∉ ids ++ done) ∧ (ids ++ done).length + i1.length ≤ 100000 := by
     rw [hci] at hcn
     obtain ⟨h1, h2⟩ := hcn
     simp only [List.nodup_append, List.mem_append, List.length_append] at h1 h2 ⊢
     refine ⟨h1.2.1.2.1.1, fun j hj hm => ?_, by omega⟩
     rcases hm with hm | hm
     ·exact h1.2.2 j hm j (.inr (.inl hj)) rfl
     ·exact h1.2.1.2.2 j hm j (.inl hj) rfl
    have HT := Lib.hid (And.intro hci (And.intro hla' (And.intro hvs' (And.intro hS (And.intro hp1 hnd2)))))
    have hi0 : (0 : Int) ≤ (i : Int) := by omega
    have hlt' : (i : Int) < (items.length : Int) := by omega
    have hw1 : IntKind.i64.wrap ((i : Int) + 1) = (i : Int) + 1 := IntWalk.i64_in _ (by omega)
    have hids := val_len hval hsv
    have HV := Lib.hid hval
    clear hci hla' hvs hvs' hS hp hp1 hnd2 hsl hA hcn hkeys hdj hcl hcell hval
    generalize items[i] = it at *
    obtain ⟨ik, iv0, io, isz⟩ := it
    simp only at x0 x1 x2 x3 hk1 hk2
    obtain ⟨Wx, hWx⟩ : ∃ Wx, Wx = wr.alloc (.cells #[strV ik, strV iv0, .int .i64 io, .int .i64 isz] 96) := ⟨_, rfl⟩
    have hbx : Below wr.heap.size wr Wx := by rw [hWx]; exact (Below.refl _ _).alloc (Nat.le_refl _) _
    have bit : Blk Wx wr.heap.size 96 #[strV ik, strV iv0, .int .i64 io, .int .i64 isz] := by rw [hWx]; exact Blk.new _ _ _
    have t0 : (wr.alloc (.cells #[strV ik, strV iv0, .int .i64 io, .int .i64 isz] 96)).cell? ⟨wr.heap.size, 0, none⟩ = some (strV ik) := by rw [← hWx]; exact bit.cell 0
    have t2 : (wr.alloc (.cells #[strV ik, strV iv0, .int .i64 io, .int .i64 isz] 96)).cell? ⟨wr.heap.size, 2, none⟩ = some (.int .i64 io) := by rw [← hWx]; exact bit.cell 2
    have t3 : (wr.alloc (.cells #[strV ik, strV iv0, .int .i64 io, .int .i64 isz] 96)).cell? ⟨wr.heap.size, 3, none⟩ = some (.int .i64 isz) := by rw [← hWx]; exact bit.cell 3
    have d0 : (wr.alloc (.cells #[strV ik, strV iv0, .int .i64 io, .int .i64 isz] 96)).cell? ⟨b, 0, none⟩ = some (ptrV p) := by rw [← hWx]; exact (HT.out.2.2.2.1.below hbx).cells.1
    have HBx := Lib.hid hbx
    have HWx := Lib.hid hWx
    clear bit hbx hWx
    have hkey2 : (hi' == ([] : Bytes)) = true ∨ ((hi' == ([] : Bytes)) = false ∧ Op.bytesLess ik hi' = true) := by
     rcases hk2 with e | e
     ·exact .inl (by simpa using e)
     ·by_cases e2 : hi' = []
      ·exact .inl (by simpa using e2)
      ·exact .inr ⟨by simpa using e2, e⟩
    have hk1' : Op.bytesLess ik lo = false := hk1
    clear hk1 hk2
    rcases hkey2 with hz | ⟨hz1, hz2⟩
    ·by_cases hio : io = 0
     ·subst hio
      have hR : ci = (done ++ i1) ++ i2 ∧ LeafAt M (items.drop (i + 1)) ps' i2 ∧ (∀ q ∈ ps', q.2.length ≤ 2000) ∧ SeeK p b sb iv (ids ++ (done ++ i1)) ((below : Int) + 1) (ks + (items.length : Int)) w (wr.alloc (.cells #[strV ik, strV iv0, .int .i64 0, .int .i64 isz] 96)) := by
       obtain ⟨a1, a2, a3, a4, _⟩ := HT.out
       obtain ⟨_, _, rfl⟩ | ⟨h, _⟩ := HV.out
       ·exact ⟨by rw [a1]; simp, a2, a3, by rw [List.append_nil]; rw [← HWx.out]; exact a4.below HBx.out⟩
       ·exact absurd rfl h
      have HR := Lib.hid hR
      clear hR
      go_wp2_with (fail)
      go_roundg (gk - 1)
      case measure => omega
      case rel => exact ⟨i + 1, done ++ i1, i2, ps', by simp, by omega, HR.out⟩
     ·obtain ⟨vl, hvl⟩ : ∃ m, v.length = m := ⟨_, rfl⟩
      have hisz : isz = (vl : Int) := by
       obtain ⟨h, _⟩ | ⟨_, _, h⟩ := HV.out
       ·exact absurd h hio
       ·have h2 : (v.length : Int) = isz := h
        omega
      subst hisz
      have hio' : (io == 0) = false := by simpa using hio
      have HPg : Hid (∀ W, Below wr.heap.size wr W → Calls Tryz.prog 78 #[ptrV p, .int .i64 io, .int .i64 (vl : Int)] W fun e w' => ∃ r, e = .returned (.tuple #[r, .int .i64 0]) ∧ w'.ownsRow W.heap.size 3 1 r i1.length (intsV i1) ∧ Below W.heap.size W w') := fun W hW => by
       obtain ⟨h, _⟩ | ⟨_, h, _⟩ := HV.out
       ·exact absurd h hio
       ·have := overPages_ok io v i1 W (HT.out.2.2.2.2.1.below hW) h hsv (by omega)
        rw [hvl] at this
        exact this
      clear hvl hio
      go_wp2_with (fail)
      refine wp_region_any (by kernel_rfl) ?_
      change wpAny _ _ _ _ _ _ _ (World.drew _)
      try simp only [Act.put, lT, l0, lS]
      refine tA 0 ?_; try simp only [Act.put, lT, l0, lS]
      refine tA 1 ?_; try simp only [Act.put, lT, l0, lS]
      refine tA 2 ?_; try simp only [Act.put, lT, l0, lS]
      refine tA 4 ?_; try simp only [Act.put, lT, l0, lS]
      refine tA 6 ?_; try simp only [Act.put, lT, l0, lS]
      try simp only [Act.put, lT, l0, lS]
      refine rA 3 (v := ?_) (hy := ?hy) ?_; case hy => (intro w hE; have q0 := hE.cell d0; go_simp; try with_reducible rfl)
      try simp only [Act.put, lT, l0, lS]
      try simp only [Act.put, lT, l0, lS]
      refine rA 5 (v := ?_) (hy := ?hy) ?_; case hy => (intro w hE; have q0 := hE.cell t2; go_simp; try with_reducible rfl)
      try simp only [Act.put, lT, l0, lS]
      try simp only [Act.put, lT, l0, lS]
      refine rA 7 (v := ?_) (hy := ?hy) ?_; case hy => (intro w hE; have q0 := hE.cell t3; go_simp; try with_reducible rfl)
      try simp only [Act.put, lT, l0, lS]
      refine rd 8 (by kernel_rfl) rfl (fun K hK => ?_); go_simp
      (go_at_call 78; go_must (refine (HPg.out _ (by rw [← HWx.out]; exact HBx.out.drew)).mono ?_); rintro e w2 ⟨r, rfl, hown2, hb2⟩)
      obtain ⟨A2, c2, rfl, _⟩ := Sl.of_own hown2
      go_simp
      refine hK _ _ ?_
      clear hK K
      try simp only [Act.put, lT, l0, lS]
      refine tA 9 ?_; try simp only [Act.put, lT, l0, lS]
      refine tA 10 ?_; try simp only [Act.put, lT, l0, lS]
      refine tA 11 ?_; try simp only [Act.put, lT, l0, lS]
      refine tA 12 ?_; try simp only [Act.put, lT, l0, lS]
      refine tA 13 ?_; try simp only [Act.put, lT, l0, lS]
      refine wpAny_done (by kernel_rfl) ?_ _
      obtain ⟨a1, a2, a3, a4, a5, a6, a7, a8⟩ := HT.out
      have hbw2 : Below wr.heap.size wr w2 := by
       have h1 := HBx.out.drew
       rw [HWx.out] at h1
       exact h1.trans (hb2.mono (by simp))
      have HSee := Lib.hid (a4.see (new := i1) hbw2 (fun k hk => h0lt k hk) (Sl.of_own hown2) (fun g o e => by
       subst e
       have := (hown2.lt g rfl).1
       simp at this
       omega) a6 a7 a8)
      have HCi := Lib.hid (And.intro a1 (And.intro a2 a3))
      clear a1 a2 a3 a4 a5 a6 a7 a8 hbw2 hown2 hb2
      go_wp2_with (fail)
      go_must (refine HSee.out.mono ?_)
      rintro e w3 ⟨rfl, hS3⟩
      have HS3 := Lib.hid hS3
      clear hS3
      go_wp2_with (fail)
      go_roundg (gk - 1)
      case measure => omega
      case rel => exact ⟨i + 1, done ++ i1, i2, ps', by simp, by omega, by rw [HCi.out.1]; simp, HCi.out.2.1, HCi.out.2.2, by rw [← List.append_assoc]; exact HS3.out⟩
    ·by_cases hio : io = 0
     ·subst hio
      have hR : ci = (done ++ i1) ++ i2 ∧ LeafAt M (items.drop (i + 1)) ps' i2 ∧ (∀ q ∈ ps', q.2.length ≤ 2000) ∧ SeeK p b sb iv (ids ++ (done ++ i1)) ((below : Int) + 1) (ks + (items.length : Int)) w (wr.alloc (.cells #[strV ik, strV iv0, .int .i64 0, .int .i64 isz] 96)) := by
       obtain ⟨a1, a2, a3, a4, _⟩ := HT.out
       obtain ⟨_, _, rfl⟩ | ⟨h, _⟩ := HV.out
       ·exact ⟨by rw [a1]; simp, a2, a3, by rw [List.append_nil]; rw [← HWx.out]; exact a4.below HBx.out⟩
       ·exact absurd rfl h
      have HR := Lib.hid hR
      clear hR
      go_wp2_with (fail)
      go_roundg (gk - 1)
      case measure => omega
      case rel => exact ⟨i + 1, done ++ i1, i2, ps', by simp, by omega, HR.out⟩
     ·obtain ⟨vl, hvl⟩ : ∃ m, v.length = m := ⟨_, rfl⟩
      have hisz : isz = (vl : Int) := by
       obtain ⟨h, _⟩ | ⟨_, _, h⟩ := HV.out
       ·exact absurd h hio
       ·have h2 : (v.length : Int) = isz := h
        omega
      subst hisz
      have hio' : (io == 0) = false := by simpa using hio
      have HPg : Hid (∀ W, Below wr.heap.size wr W → Calls Tryz.prog 78 #[ptrV p, .int .i64 io, .int .i64 (vl : Int)] W fun e w' => ∃ r, e = .returned (.tuple #[r, .int .i64 0]) ∧ w'.ownsRow W.heap.size 3 1 r i1.length (intsV i1) ∧ Below W.heap.size W w') := fun W hW => by
       obtain ⟨h, _⟩ | ⟨_, h, _⟩ := HV.out
       ·exact absurd h hio
       ·have := overPages_ok io v i1 W (HT.out.2.2.2.2.1.below hW) h hsv (by omega)
        rw [hvl] at this
        exact this
      clear hvl hio
      go_wp2_with (fail)
      refine wp_region_any (by kernel_rfl) ?_
      change wpAny _ _ _ _ _ _ _ (World.drew _)
      try simp only [Act.put, lT, l0, lS]
      refine tA 0 ?_; try simp only [Act.put, lT, l0, lS]
      refine tA 1 ?_; try simp only [Act.put, lT, l0, lS]
      refine tA 2 ?_; try simp only [Act.put, lT, l0, lS]
      refine tA 4 ?_; try simp only [Act.put, lT, l0, lS]
      refine tA 6 ?_; try simp only [Act.put, lT, l0, lS]
      try simp only [Act.put, lT, l0, lS]
      refine rA 3 (v := ?_) (hy := ?hy) ?_; case hy => (intro w hE; have q0 := hE.cell d0; go_simp; try with_reducible rfl)
      try simp only [Act.put, lT, l0, lS]
      try simp only [Act.put, lT, l0, lS]
      refine rA 5 (v := ?_) (hy := ?hy) ?_; case hy => (intro w hE; have q0 := hE.cell t2; go_simp; try with_reducible rfl)
      try simp only [Act.put, lT, l0, lS]
      try simp only [Act.put, lT, l0, lS]
      refine rA 7 (v := ?_) (hy := ?hy) ?_; case hy => (intro w hE; have q0 := hE.cell t3; go_simp; try with_reducible rfl)
      try simp only [Act.put, lT, l0, lS]
      refine rd 8 (by kernel_rfl) rfl (fun K hK => ?_); go_simp
      (go_at_call 78; go_must (refine (HPg.out _ (by rw [← HWx.out]; exact HBx.out.drew)).mono ?_); rintro e w2 ⟨r, rfl, hown2, hb2⟩)
      obtain ⟨A2, c2, rfl, _⟩ := Sl.of_own hown2
      go_simp
      refine hK _ _ ?_
      clear hK K
      try simp only [Act.put, lT, l0, lS]
      refine tA 9 ?_; try simp only [Act.put, lT, l0, lS]
      refine tA 10 ?_; try simp only [Act.put, lT, l0, lS]
      refine tA 11 ?_; try simp only [Act.put, lT, l0, lS]
      refine tA 12 ?_; try simp only [Act.put, lT, l0, lS]
      refine tA 13 ?_; try simp only [Act.put, lT, l0, lS]
      refine wpAny_done (by kernel_rfl) ?_ _
      obtain ⟨a1, a2, a3, a4, a5, a6, a7, a8⟩ := HT.out
      have hbw2 : Below wr.heap.size wr w2 := by
       have h1 := HBx.out.drew
       rw [HWx.out] at h1
       exact h1.trans (hb2.mono (by simp))
      have HSee := Lib.hid (a4.see (new := i1) hbw2 (fun k hk => h0lt k hk) (Sl.of_own hown2) (fun g o e => by
       subst e
       have := (hown2.lt g rfl).1
       simp at this
       omega) a6 a7 a8)
      have HCi := Lib.hid (And.intro a1 (And.intro a2 a3))
      clear a1 a2 a3 a4 a5 a6 a7 a8 hbw2 hown2 hb2
      go_wp2_with (fail)
      go_must (refine HSee.out.mono ?_)
      rintro e w3 ⟨rfl, hS3⟩
      have HS3 := Lib.hid hS3
      clear hS3
      go_wp2_with (fail)
      go_roundg (gk - 1)
      case measure => omega
      case rel => exact ⟨i + 1, done ++ i1, i2, ps', by simp, by omega, by rw [HCi.out.1]; simp, HCi.out.2.1, HCi.out.2.2, by rw [← List.append_assoc]; exact HS3.out⟩
   ·have hii : i = items.length := by omega
    have HE : Hid (SeeK p b sb iv (ids ++ ci) ((below : Int) + 1) (ks + (items.length : Int)) w wr) := by
     obtain ⟨hci, hla, _, hS⟩ := hI.out
     rw [hii, List.drop_length] at hla
     obtain ⟨_, rfl⟩ := hla
     rw [List.append_nil] at hci
     rw [hci]
     exact hS
    have hlt' : ¬ (i : Int) < (items.length : Int) := by omega
    clear hlt hI
    go_wp2_with (fail)
    go_ret
    exact ⟨rfl, HE.out⟩
end
end Go.Ev

set_option linter.unusedVariables false
set_option linter.unusedSimpArgs false
namespace Go.Ev
open Go.Proofs Go.RowKit
def HiT (hi : Option Bytes) (t : Bytes) : Prop := (hi = none ∧ t = []) ∨ (hi = some t ∧ t ≠ [])
theorem HiT.keys {hi : Option Bytes} {t lo k : Bytes} (h : HiT hi t) (hk : inR lo hi k) : lessB k lo = false ∧ (t = [] ∨ lessB k t = true) := by
 refine ⟨hk.1, ?_⟩
 rcases h with ⟨_, e⟩ | ⟨e, _⟩
 ·exact .inl e
 ·exact .inr (hk.2 _ e)
theorem max_text {P : Program} (a b m : Bytes) (h : (b = [] ∧ m = a) ∨ (lessB b a = false ∧ m = b)) (ts : Array TypeId) (t : TypeId) (W : World) : (Builtin.max_ ts t #[strV a, strV b]).run P W = .ok (strV m) W := by
 have e := Lib.run_max_strs (P := P) W ts t ⟨a.toArray⟩ ⟨b.toArray⟩
 have e2 : Lib.maxS ⟨a.toArray⟩ ⟨b.toArray⟩ = ⟨m.toArray⟩ := by
  unfold Lib.maxS
  simp only
  by_cases hl : a < b
  ·rw [if_pos hl]
   rcases h with ⟨rfl, _⟩ | ⟨_, rfl⟩
   ·have : lessB a [] = true := by
     show Op.bytesLess a [] = true
     rw [bytesLess_eq]
     exact decide_eq_true hl
    rw [lessB_nil] at this
    cases this
   ·rfl
  ·rw [if_neg hl]
   rcases h with ⟨_, rfl⟩ | ⟨h, rfl⟩
   ·rfl
   ·have h2 : lessB a m = false := by
     show Op.bytesLess a m = false
     rw [bytesLess_eq]
     exact decide_eq_false hl
    rcases lessB_total a m with h3 | h3 | h3
    ·rw [h2] at h3; cases h3
    ·rw [h3]
    ·rw [h] at h3; cases h3
 rw [e2] at e
 exact e
theorem headKey_at (k : Bytes) (L : List Child) {i : Nat} (hi : 0 < i) : (headKey k L)[i]? = L[i]? := by
 cases L with
 | nil => rfl
 | cons c L =>
  cases i with
  | zero => omega
  | succ i => rfl
section
variable {w w' : World} {p b sb cc most cnt : Nat} {c : Pc} {M : Store} {iv : Value} {ids : List Int} {l : List Ent} {ht ks : Int}
theorem SeeK.join {iv2 : Value} {w1 w2 : World} {ids2 : List Int} {ht2 ks2 : Int} (hk : Keeps (SeeS b sb iv) w w1) (ho : ∀ k, iv2.ownBlock = some k → iv.ownBlock = some k ∨ w.heap.size ≤ k) (k2 : SeeK p b sb iv2 ids2 ht2 ks2 w1 w2) : SeeK p b sb iv ids2 ht2 ks2 w w2 := by
 obtain ⟨iv', l', cc', h1, h2⟩ := k2.ex
 have hz := hk.size
 refine ⟨⟨iv', l', cc', h1, fun k e => ?_⟩, hk.trans k2.keeps fun i hi e => ?_⟩
 ·rcases h2 k e with e | e
  ·exact ho k e
  ·exact .inr (by omega)
 ·rcases e with e | e | e
  ·exact .inl e
  ·exact .inr (.inl e)
  ·rcases ho i e with e | e
   ·exact .inr (.inr e)
   ·omega
structure DnI (p b sb : Nat) (iv : Value) (ids : List Int) (ht ks : Int) (M : Store) (k : Nat) (KL : List Child) (lo : Bytes) (hi : Option Bytes) (ps : List Pair) (i2 : List Int) (T : Int) (i : Nat) (w3 wr : World) : Prop where
 ex : ∃ pd psr done rest ht1, Seg (Sub M 1 k) (KL.drop i) hi psr rest ∧ ps = pd ++ psr ∧ i2 = done ++ rest ∧ (ht1 = 0 ∨ ht1 = T) ∧ (0 < i → ht1 = T) ∧ SeeK p b sb iv (ids ++ done) ht1 (ks + (pd.length : Int)) w3 wr
 head : ∀ x, KL[i]? = some x → lessB x.key lo = false
set_option maxHeartbeats 8000000 in
set_option maxRecDepth 100000 in
theorem seeDown_leaf (id : Int) (lo hi' : Bytes) (hi : Option Bytes) (ps : List Pair) (ci : List Int) (below : Nat) (h : SeeAt w p b sb iv ids l cc ht ks) (hp : PgOk w p c most M cnt) (hdj : ∀ k, c.S p k → ¬ SeeS b sb iv k) (hT : TreeAt M 1 0 id lo hi ps ci) (hH : HiT hi hi') (hne : ps ≠ [] ∨ below = 0) (hsh : Short ps)
  (hnd : (ids ++ ci).Nodup) (hids : (ids ++ ci).length ≤ 100000) (hh : ht = 0 ∨ ht = (below : Int) + 1) (hb : below < 30) (hks0 : 0 ≤ ks) (hks1 : ks ≤ 99000) :
  Calls Tryz.prog 141 #[ptrV b, .int .i64 id, strV lo, strV hi', .int .i64 (below : Int)] w fun e w' => e = .returned (.int .i64 0) ∧ SeeK p b sb iv (ids ++ ci) ((below : Int) + 1) (ks + (ps.length : Int)) w w' := by
 obtain ⟨items, i2, hm, hr, hs, hla, rfl, hin⟩ := hT
 have hlen := hla.item.1
 have hil : items.length ≤ 240 := by have := layI_ge items; omega
 have hne2 : items ≠ [] ∨ below = 0 := hne.imp (fun h e => h (by subst e; exact List.eq_nil_of_length_eq_zero (by simpa using hlen.symm))) fun h => h
 have hLd := Lib.hid (load_leaf id below items w hp hm hr hs hb hne2)
 obtain ⟨c0, _, _, _, _, hbl⟩ := h.k.cells
 have HH := Lib.hid (And.intro h (And.intro hp hdj))
 have hkeys : ∀ x ∈ items, lessB x.key lo = false ∧ (hi' = [] ∨ lessB x.key hi' = true) := fun x hx => by
  obtain ⟨_, e⟩ := leaf_rising hla hr
  obtain ⟨q, hq, hk⟩ := List.mem_map.1 (show x.key ∈ ps.map (·.1) by rw [e]; exact List.mem_map_of_mem hx)
  rw [← hk]
  exact hH.keys (hin q hq)
 have HK := Lib.hid (And.intro hla (And.intro hsh (And.intro hnd (And.intro hids hkeys))))
 have HL := Lib.hid hlen
 clear h hp hdj hm hr hs hin hla hsh hnd hids hkeys hlen hne hne2
 go_enter Tryz.func141, Tryz.ntmps141
 go_wp2_with (fail)
 go_must (refine hLd.out.mono ?_)
 rintro e w1 ⟨v, rfl, hown, hb1⟩
 unfold OwnsI at hown
 obtain ⟨A, d, rfl, _⟩ := Sl.of_own hown
 have HO := Lib.hid hown
 have HB1 := Lib.hid hb1
 obtain ⟨W1, hW1⟩ : ∃ W1, w1.alloc (.cells #[.bool true, .slice A items.length d, .slice none 0 0] 150) = W1 := ⟨_, rfl⟩
 obtain ⟨W2, hW2⟩ : ∃ W2, W1.alloc (.cells #[.int .i64 id] 3) = W2 := ⟨_, rfl⟩
 have hzW1 : W1.heap.size = w1.heap.size + 1 := by rw [← hW1]; simp
 have hbW1 : Below w.heap.size w W1 := by rw [← hW1]; exact hb1.alloc hb1.size _
 have hbW2 : Below w.heap.size w W2 := by rw [← hW2]; exact hbW1.alloc hbW1.size _
 have hb12 : Below w1.heap.size w1 W2 := by rw [← hW2, ← hW1]; exact ((Below.refl _ _).alloc (Nat.le_refl _) _).alloc (by simp) _
 have hbn : Blk W2 w1.heap.size 150 #[.bool true, .slice A items.length d, .slice none 0 0] := by
  rw [← hW2, ← hW1]
  exact (Blk.new w1 _ _).alloc _
 have hbi : Blk W2 W1.heap.size 3 #[.int .i64 id] := by rw [← hW2]; exact Blk.new _ _ _
 have hsid : Sl W2 1 (.slice (some ⟨W1.heap.size, 0, none⟩) 1 1) 1 (intsV [id]) := ⟨_, 1, rfl, Nat.le_refl _, rfl, fun _ => ⟨_, 0, rfl, hbi.lt, fun j u hu => by
  rw [Nat.zero_add, hbi.cell]
  simpa [intsV] using hu⟩⟩
 have hlt := HH.out.1.lt
 obtain ⟨hla, hsh, hnd, hids, hkeys⟩ := HK.out
 have hnd' : (ids ++ [id]).Nodup ∧ id ∉ ids := by
  simp only [List.nodup_append, List.nodup_cons, List.mem_cons, List.not_mem_nil, or_false] at hnd ⊢
  refine ⟨⟨hnd.1, by simp, fun a ha x hx => ?_⟩, fun hm => hnd.2.2 id hm id (.inl rfl) rfl⟩
  subst hx
  exact hnd.2.2 a ha x (.inl rfl)
 have hz1 := hb1.size
 have hSee := see_ok (some ⟨W1.heap.size, 0, none⟩) 1 1 [id] (HH.out.1.below hbW2) hsid (fun g o e hs => by
  have := hlt g hs
  cases e
  omega) (by simp) (fun j hj => by rw [List.mem_singleton.1 hj]; exact hnd'.2) (by simp only [List.length_append, List.length_cons] at hids; simp; omega)
 rw [hzW1] at hSee
 have HSee := Lib.hid hSee
 have HW1 := Lib.hid hW1
 have HW2 := Lib.hid hW2
 clear hW1 hW2
 have HM := Lib.hid (And.intro hbW2 (And.intro hb12 (And.intro hbn hzW1)))
 clear hown hb1 hbW1 hbW2 hb12 hbn hbi hsid hla hsh hnd hids hkeys hnd' hSee
 go_wp2_with (fail)
 rw [HW1.out, HW2.out]
 go_must (refine HSee.out.mono ?_)
 rintro e w3 ⟨rfl, iv2, l2, cc2, hS3, hK3, hO3⟩
 obtain ⟨hbW2, hb12, hbn, _⟩ := HM.out
 have hzz := hb12.size
 have hnS : ¬ SeeS b sb iv w1.heap.size := fun hs => by have := hlt _ hs; omega
 have hbn3 := hbn.keeps hK3 hnS
 have n0 : w3.cell? ⟨w1.heap.size, 0, none⟩ = some (.bool true) := hbn3.cell 0
 have n1 : w3.cell? ⟨w1.heap.size, 1, none⟩ = some (.slice A items.length d) := hbn3.cell 1
 have ho3 : ∀ k, iv2.ownBlock = some k → iv.ownBlock = some k ∨ w.heap.size ≤ k := fun k e => (hO3 k e).imp (fun h => h) fun h => by have := hbW2.size; omega
 have hkp3 : Keeps (SeeS b sb iv) w w3 := (Keeps.of_below (S := SeeS b sb iv) hbW2).trans hK3 fun _ _ e => e
 have hown2 := own_below HO.out hb12
 have hA1 : ∀ j, (Value.slice A items.length d).ownBlock = some j → ¬ SeeS b sb iv j := fun j hj hs => by
  have := (HO.out.lt j hj).1
  have := hlt j hs
  omega
 have hown3 := own_keeps hown2 hK3 hA1
 obtain ⟨hla, hsh, hnd, hids, hkeys⟩ := HK.out
 have hLf := seeLeaf_ok A items.length d items ps i2 lo hi' below hS3 (HH.out.2.1.keeps hkp3 fun k hk e => HH.out.2.2 k hk e) (fun k hk e => by
  have h1 := HH.out.2.1.lt k hk
  rcases e with e | e | e
  ·exact HH.out.2.2 k hk (.inl e)
  ·exact HH.out.2.2 k hk (.inr (.inl e))
  ·rcases ho3 k e with e | e
   ·exact HH.out.2.2 k hk (.inr (.inr e))
   ·omega) (Sl.of_own hown3) (fun g o e hs => by
  subst e
  have h1 := (HO.out.lt g rfl).1
  have h2 := (HO.out.lt g rfl).2
  rcases hs with hs | hs | hs
  ·have := hlt g (.inl hs); omega
  ·have := hlt g (.inr (.inl hs)); omega
  ·rcases hO3 g hs with e | e
   ·have := hlt g (.inr (.inr e)); omega
   ·omega) (by omega) hla hsh (by rw [List.append_assoc]; exact hnd) (by rw [List.append_assoc]; exact hids) hkeys hh (by omega) hks0 (by omega)
 have HLf := Lib.hid hLf
 have HJ := Lib.hid (And.intro hkp3 ho3)
 clear hS3 hK3 hO3 hbW2 hb12 hbn hbn3 hown2 hown3 hA1 hla hsh hnd hids hkeys hLf hkp3 ho3 hnS hlt
 go_wp2_with (fail)
 go_must (refine HLf.out.mono ?_)
 rintro e w4 ⟨rfl, hK4⟩
 have hK := SeeK.join HJ.out.1 HJ.out.2 hK4
 rw [List.append_assoc] at hK
 rw [HL.out] at hK
 have HKK := Lib.hid hK
 clear hK hK4
 go_wp2_with (fail)
 go_ret
 exact ⟨rfl, HKK.out⟩
structure DnPre (p b sb : Nat) (c : Pc) (most cnt : Nat) (M : Store) (k : Nat) (w : World) (iv : Value) (ids : List Int) (ht ks : Int) (id : Int) (lo hi' : Bytes) (hi : Option Bytes) (ps : List Pair) (ci : List Int) (below : Nat) (T : Int) : Prop where
 see : ∃ l cc, SeeAt w p b sb iv ids l cc ht ks
 pg : PgOk w p c most M cnt
 dj : ∀ k, c.S p k → ¬ SeeS b sb iv k
 tree : TreeAt M 1 k id lo hi ps ci
 wide : 0 < below ∨ k = 0 ∨ 2 ≤ (kidsAt M id).length
 top : HiT hi hi'
 some : ps ≠ [] ∨ below = 0
 short : Short ps
 once : (ids ++ ci).Nodup
 few : (ids ++ ci).length ≤ 100000
 high : T = ((below + k : Nat) : Int) + 1
 ht : ht = 0 ∨ ht = T
 deep : below + k < 30
 ks0 : 0 ≤ ks
 ks1 : ks + (ps.length : Int) ≤ 99000
set_option maxHeartbeats 16000000 in
set_option maxRecDepth 100000 in
theorem seeDown_ok (k : Nat) : ∀ (w : World) (iv : Value) (ids : List Int) (ht ks : Int) (id : Int) (lo hi' : Bytes) (hi : Option Bytes) (ps : List Pair) (ci : List Int) (below : Nat) (T : Int) (_ : DnPre p b sb c most cnt M k w iv ids ht ks id lo hi' hi ps ci below T),
  Calls Tryz.prog 141 #[ptrV b, .int .i64 id, strV lo, strV hi', .int .i64 (below : Int)] w fun e w' => e = .returned (.int .i64 0) ∧ SeeK p b sb iv (ids ++ ci) T (ks + (ps.length : Int)) w w' := by
 induction k with
 | zero =>
  intro w iv ids ht ks id lo hi' hi ps ci below T hD
  obtain ⟨l, cc, h⟩ := hD.see
  have hTT := hD.high
  rw [Nat.add_zero] at hTT
  subst hTT
  have hb := hD.deep
  exact seeDown_leaf id lo hi' hi ps ci below h hD.pg hD.dj hD.tree hD.top hD.some hD.short hD.once hD.few hD.ht (by omega) hD.ks0 (by have := hD.ks1; omega)
 | succ k IH =>
  intro w iv ids ht ks id lo hi' hi ps ci below T hD
  have HD := Lib.hid hD
  have HIH := Lib.hid IH
  obtain ⟨c0', L0, i2, hm, hr, hs, hd2, hclo, hseg, hci⟩ := hD.tree
  obtain ⟨KL, hKL⟩ : ∃ KL, headKey [] (c0' :: L0) = KL := ⟨_, rfl⟩
  rw [hKL] at hm hr hs
  have hKl : KL.length = (c0' :: L0).length := by rw [← hKL, headKey_len]
  have hK0 : KL[0]? = some { c0' with key := [] } := by rw [← hKL]; rfl
  have hKi : ∀ i, 0 < i → KL[i]? = (c0' :: L0)[i]? := fun i hi => by rw [← hKL]; exact headKey_at _ _ hi
  obtain ⟨CL, hCL⟩ : ∃ CL, c0' :: L0 = CL := ⟨_, rfl⟩
  rw [hCL] at hKl hseg hKi
  have hC0 : CL[0]? = some c0' := by rw [← hCL]; rfl
  have hLl := layC_len KL
  have hwd : 2 ≤ KL.length ∨ 0 < below := by
   rcases hD.wide with e | e | e
   ·exact .inr e
   ·omega
   ·rw [kidsAt_of hm hr hs] at e
    exact .inl e
  have hLd := Lib.hid (load_branch id below KL w hD.pg hm hr hs (by have := hD.deep; omega) hwd)
  obtain ⟨l, cc, h⟩ := hD.see
  obtain ⟨c0, _, _, _, _, hbl⟩ := h.k.cells
  have HS := Lib.hid h
  have hHk := And.intro hseg (And.intro hci (And.intro hclo (And.intro hKl (And.intro hK0 (And.intro hKi hC0)))))
  have HK := Lib.hid hHk
  obtain ⟨n, hn⟩ : ∃ n, KL.length = n := ⟨_, rfl⟩
  have hn1 : n ≤ 240 := by omega
  have HN := Lib.hid hn
  have hbd := hD.deep
  clear h hm hr hs hHk hseg hci hclo hKl hK0 hKi hC0 hKL hCL IH hD hLl hd2 hwd
  go_enter Tryz.func141, Tryz.ntmps141
  go_wp2_with (fail)
  go_must (refine hLd.out.mono ?_)
  rintro e w1 ⟨v, rfl, hown, hb1⟩
  unfold OwnsC at hown
  rw [hn] at hown
  obtain ⟨A, d, rfl, _⟩ := Sl.of_own hown
  have HO := Lib.hid hown
  obtain ⟨W1, hW1⟩ : ∃ W1, w1.alloc (.cells #[.bool false, .slice none 0 0, .slice A n d] 150) = W1 := ⟨_, rfl⟩
  obtain ⟨W2, hW2⟩ : ∃ W2, W1.alloc (.cells #[.int .i64 id] 3) = W2 := ⟨_, rfl⟩
  have hzW1 : W1.heap.size = w1.heap.size + 1 := by rw [← hW1]; simp
  have hbW1 : Below w.heap.size w W1 := by rw [← hW1]; exact hb1.alloc hb1.size _
  have hbW2 : Below w.heap.size w W2 := by rw [← hW2]; exact hbW1.alloc hbW1.size _
  have hb12 : Below w1.heap.size w1 W2 := by rw [← hW2, ← hW1]; exact ((Below.refl _ _).alloc (Nat.le_refl _) _).alloc (by simp) _
  have hbn : Blk W2 w1.heap.size 150 #[.bool false, .slice none 0 0, .slice A n d] := by
   rw [← hW2, ← hW1]
   exact (Blk.new w1 _ _).alloc _
  have hbi : Blk W2 W1.heap.size 3 #[.int .i64 id] := by rw [← hW2]; exact Blk.new _ _ _
  have hsid : Sl W2 1 (.slice (some ⟨W1.heap.size, 0, none⟩) 1 1) 1 (intsV [id]) := ⟨_, 1, rfl, Nat.le_refl _, rfl, fun _ => ⟨_, 0, rfl, hbi.lt, fun j u hu => by
   rw [Nat.zero_add, hbi.cell]
   simpa [intsV] using hu⟩⟩
  have hlt := HS.out.lt
  have hnd := HD.out.once
  have hids := HD.out.few
  rw [HK.out.2.1] at hnd hids
  have hnd' : id ∉ ids := by
   intro hm
   simp only [List.nodup_append, List.mem_cons] at hnd
   exact hnd.2.2 id hm id (.inl rfl) rfl
  have hz1 := hb1.size
  have hSee := see_ok (some ⟨W1.heap.size, 0, none⟩) 1 1 [id] (HS.out.below hbW2) hsid (fun g o e hs => by
   have := hlt g hs
   cases e
   omega) (by simp) (fun j hj => by rw [List.mem_singleton.1 hj]; exact hnd') (by simp only [List.length_append, List.length_cons] at hids; simp; omega)
  rw [hzW1] at hSee
  have HSee := Lib.hid hSee
  have HW1 := Lib.hid hW1
  have HW2 := Lib.hid hW2
  clear hW1 hW2
  have HM := Lib.hid (And.intro hbW2 (And.intro hb12 (And.intro hbn hzW1)))
  have HZ1 := Lib.hid hz1
  clear hown hb1 hbW1 hbW2 hb12 hbn hbi hsid hnd hids hnd' hSee hz1
  go_wp2_with (fail)
  rw [HW1.out, HW2.out]
  go_must (refine HSee.out.mono ?_)
  rintro e w3 ⟨rfl, iv2, l2, cc2, hS3, hK3, hO3⟩
  obtain ⟨hbW2, hb12, hbn, _⟩ := HM.out
  have hzz := hb12.size
  have hnS : ¬ SeeS b sb iv w1.heap.size := fun hs => by have := hlt _ hs; have := HZ1.out; omega
  have hbn3 := hbn.keeps hK3 hnS
  have n0 : w3.cell? ⟨w1.heap.size, 0, none⟩ = some (.bool false) := hbn3.cell 0
  have n2 : w3.cell? ⟨w1.heap.size, 2, none⟩ = some (.slice A n d) := hbn3.cell 2
  have ho3 : ∀ k, iv2.ownBlock = some k → iv.ownBlock = some k ∨ w.heap.size ≤ k := fun k e => (hO3 k e).imp (fun h => h) fun h => by have := hbW2.size; omega
  have hkp3 : Keeps (SeeS b sb iv) w w3 := (Keeps.of_below (S := SeeS b sb iv) hbW2).trans hK3 fun _ _ e => e
  have hown2 := own_below HO.out hb12
  have hA0 : ∀ j, (Value.slice A n d).ownBlock = some j → w.heap.size ≤ j ∧ j < w1.heap.size := fun j hj => HO.out.lt j hj
  have hown3 := own_keeps hown2 hK3 fun j hj hs => by
   have := (hA0 j hj).1
   have := hlt j hs
   omega
  -- nothing of the node is the walk's own
  have hnlt := hbn.lt
  have hnS3 : ∀ j, w.heap.size ≤ j → j ≤ w1.heap.size → ¬ SeeS b sb iv2 j := fun j h1 h2 hs => by
   rcases hs with hs | hs | hs
   ·have := hlt j (.inl hs); omega
   ·have := hlt j (.inr (.inl hs)); omega
   ·rcases hO3 j hs with e | e
    ·have := hlt j (.inr (.inr e)); omega
    ·omega
  have HJ := Lib.hid (And.intro hkp3 (And.intro ho3 (And.intro hbn3 (And.intro hown3 (And.intro hnS3 hA0)))))
  have HS3 := Lib.hid hS3
  have HZ3 := Lib.hid (And.intro HZ1.out (show w1.heap.size < w3.heap.size by have := hK3.size; have := hbn.lt; omega))
  have hI0 : DnI p b sb iv2 (ids ++ [id]) ht ks M k CL lo hi ps i2 T 0 w3 w3 := ⟨⟨[], ps, [], i2, ht, by rw [List.drop_zero]; exact HK.out.1, rfl, rfl, HD.out.ht, fun h => by omega, by
   simp only [List.append_nil, List.length_nil]
   rw [show ks + ((0 : Nat) : Int) = ks by omega]
   exact hS3.k⟩, fun x hx => by
    rw [HK.out.2.2.2.2.2.2, Option.some.injEq] at hx
    rw [← hx, HK.out.2.2.1]
    exact lessB_irrefl _⟩
  have HI0 := Lib.hid hI0
  clear hS3 hK3 hO3 hbW2 hb12 hbn hbn3 hown2 hown3 hA0 hkp3 ho3 hnS hnS3 hI0 hzz hzW1
  go_wp2_with (fail)
  go_loopg [50] n (fun gk s50 wr => ∃ i : Nat, s50 = .int .i64 (i : Int) ∧ i + gk = n ∧ Hid (DnI p b sb iv2 (ids ++ [id]) ht ks M k CL lo hi ps i2 T i w3 wr))
  case atStart => exact ⟨0, rfl, by omega, HI0.out⟩
  case round =>
   clear HI0
   obtain ⟨i, rfl, hik, hI⟩ := hrel
   by_cases hlt' : i < n
   ·have h1' : (i : Int) < (n : Int) := by omega
    have hi0 : (0 : Int) ≤ (i : Int) := by omega
    obtain ⟨j, hj⟩ : ∃ j, i + 1 = j := ⟨_, rfl⟩
    have hwj : IntKind.i64.wrap ((i : Int) + 1) = (j : Int) := by rw [IntWalk.i64_in _ (by omega)]; omega
    have hj0 : (0 : Int) ≤ (j : Int) := by omega
    obtain ⟨b1, hb1⟩ : ∃ b1, below + 1 = b1 := ⟨_, rfl⟩
    have hwb : IntKind.i64.wrap ((below : Int) + 1) = (b1 : Int) := by rw [IntWalk.i64_in _ (by omega)]; omega
    obtain ⟨pd, psr, done, rest, ht1, hseg, hps, hi2, hht, hht1, hSK⟩ := hI.out.ex
    have hCn : CL.length = n := by rw [← HK.out.2.2.2.1, HN.out]
    have hiC : i < CL.length := by omega
    obtain ⟨x, hx⟩ : ∃ x, CL[i]? = some x := ⟨_, List.getElem?_eq_getElem hiC⟩
    have hdr : CL.drop i = x :: CL.drop j := by
     rw [List.getElem?_eq_getElem hiC, Option.some.injEq] at hx
     rw [List.drop_eq_getElem_cons hiC, hx, hj]
    rw [hdr] at hseg
    obtain ⟨q1, q2, g1, g2, rfl, rfl, ⟨htr, hqne⟩, hsr⟩ := hseg
    -- the child as it lies in the row
    obtain ⟨y, hy, hyp, hyk⟩ : ∃ y, KL[i]? = some y ∧ y.page = x.page ∧ ((y.key = [] ∧ x.key = lo) ∨ (lessB y.key lo = false ∧ x.key = y.key)) := by
     by_cases hi00 : i = 0
     ·subst hi00
      refine ⟨_, HK.out.2.2.2.2.1, ?_, .inl ⟨rfl, ?_⟩⟩
      ·have := HK.out.2.2.2.2.2.2
       rw [hx, Option.some.injEq] at this
       rw [this]
      ·have := HK.out.2.2.2.2.2.2
       rw [hx, Option.some.injEq] at this
       rw [this]
       exact HK.out.2.2.1
     ·have h2 := HK.out.2.2.2.2.2.1 i (by omega)
      rw [hx] at h2
      exact ⟨x, h2, rfl, .inr ⟨hI.out.head x hx, rfl⟩⟩
    have hmax := max_text (P := Tryz.prog) lo y.key x.key hyk
    have hownr := own_keeps HJ.out.2.2.2.1 hSK.keeps fun j hj hs => by
     have := HJ.out.2.2.2.2.2 j hj
     exact HJ.out.2.2.2.2.1 j this.1 (by omega) hs
    have hbnr := HJ.out.2.2.1.keeps hSK.keeps (HJ.out.2.2.2.2.1 _ HZ3.out.1 (Nat.le_refl _))
    have m2 : wr.cell? ⟨w1.heap.size, 2, none⟩ = some (.slice A n d) := hbnr.cell 2
    obtain ⟨_, _, e0, _, _, hcl⟩ := Sl.of_own hownr
    cases e0
    obtain ⟨blk, o, rfl, hbk, hcell⟩ := hcl (by omega)
    have hyi : ∃ h : i < KL.length, KL[i] = y := List.getElem?_eq_some_iff.1 hy
    obtain ⟨hyi1, hyi2⟩ := hyi
    obtain ⟨x0, x1⟩ := child_2 fun j u hu => child_cells (l := KL) hcell hyi1 j u hu
    rw [hyi2] at x0 x1
    have hzr := hSK.keeps.size
    have hzn : w1.heap.size < wr.heap.size := by have := HZ3.out.2; omega
    -- the walk behind this child
    have HC : Hid (∀ (t : Bytes) (W : World), Below wr.heap.size wr W → HiT (nextB (CL.drop j) hi) t → Calls Tryz.prog 141 #[ptrV b, .int .i64 x.page, strV x.key, strV t, .int .i64 (b1 : Int)] W fun e w' => e = .returned (.int .i64 0) ∧ SeeK p b sb iv2 (ids ++ [id] ++ (done ++ g1)) T (ks + ((pd ++ q1).length : Int)) w3 w') := fun t W hW hHt => by
     obtain ⟨iv', l', cc', hS', ho'⟩ := hSK.ex
     have hSW := hS'.below hW
     have hkW : Keeps (SeeS b sb iv2) w3 W := hSK.keeps.trans (Keeps.of_below (S := fun _ => False) hW) fun _ _ h => h.elim
     have hpg3 : PgOk w3 p c most M cnt := HD.out.pg.keeps HJ.out.1 fun k hk e => HD.out.dj k hk e
     have hdj3 : ∀ k, c.S p k → ¬ SeeS b sb iv2 k := fun k hk e => by
      have h1 := HD.out.pg.lt k hk
      rcases e with e | e | e
      ·exact HD.out.dj k hk (.inl e)
      ·exact HD.out.dj k hk (.inr (.inl e))
      ·rcases HJ.out.2.1 k e with e | e
       ·exact HD.out.dj k hk (.inr (.inr e))
       ·omega
     have hnd := HD.out.once
     have hfw := HD.out.few
     rw [HK.out.2.1] at hnd hfw
     have hpre : DnPre p b sb c most cnt M k W iv' (ids ++ [id] ++ done) ht1 (ks + (pd.length : Int)) x.page x.key t (nextB (CL.drop j) hi) q1 g1 b1 T := by
      refine ⟨⟨_, _, hSW⟩, hpg3.keeps hkW hdj3, fun k hk e => ?_, htr, .inl (by omega), hHt, .inl hqne, fun q hq => HD.out.short q (by rw [hps]; simp [hq]), ?_, ?_, ?_, hht, by have := HD.out.deep; omega, by have := HD.out.ks0; omega, ?_⟩
      ·have h1 := hpg3.lt k hk
       rcases e with e | e | e
       ·exact hdj3 k hk (.inl e)
       ·exact hdj3 k hk (.inr (.inl e))
       ·rcases ho' k e with e | e
        ·exact hdj3 k hk (.inr (.inr e))
        ·omega
      ·rw [hi2] at hnd
       refine List.Sublist.nodup ?_ hnd
       simp
      ·rw [hi2] at hfw
       simp only [List.length_append, List.length_cons, List.length_nil] at hfw ⊢
       omega
      ·have := HD.out.high
       omega
      ·have := HD.out.ks1
       rw [hps] at this
       simp only [List.length_append] at this
       omega
     refine (HIH.out W iv' (ids ++ [id] ++ done) ht1 (ks + (pd.length : Int)) x.page x.key t (nextB (CL.drop j) hi) q1 g1 b1 T hpre).mono ?_
     rintro e w5 ⟨rfl, hS5⟩
     refine ⟨rfl, ?_⟩
     have := SeeK.join hkW (fun k e => ho' k e) hS5
     rw [List.append_assoc] at this
     simp only [List.length_append]
     rw [show ks + ((pd.length + q1.length : Nat) : Int) = ks + (pd.length : Int) + (q1.length : Int) by omega]
     exact this
    have HNx : Hid (∀ w', SeeK p b sb iv2 (ids ++ [id] ++ (done ++ g1)) T (ks + ((pd ++ q1).length : Int)) w3 w' → DnI p b sb iv2 (ids ++ [id]) ht ks M k CL lo hi ps i2 T j w3 w') := fun w' hS' => by
     refine ⟨⟨pd ++ q1, q2, done ++ g1, g2, T, hsr, by rw [hps]; simp, by rw [hi2]; simp, .inr rfl, fun _ => rfl, hS'⟩, fun z hz => ?_⟩
     have hzj : CL.drop j = z :: CL.drop (j + 1) := by
      obtain ⟨hl, he⟩ := List.getElem?_eq_some_iff.1 hz
      rw [List.drop_eq_getElem_cons hl, he]
     rw [hzj] at htr
     obtain ⟨q, hq⟩ := List.exists_mem_of_ne_nil _ hqne
     have hqr := htr.inR q hq
     have hlz : lessB x.key z.key = true := lessB_of_le_lt hqr.1 (hqr.2 _ rfl)
     exact lessB_le_trans (hI.out.head x hx) (lessB_asymm hlz)
    obtain ⟨yk, yp⟩ := y
    simp only at x0 x1 hyp hmax
    subst hyp
    have hX := Lib.hid hx
    by_cases hjn : j < n
    ·have hjn' : (j : Int) < (n : Int) := by omega
     obtain ⟨z, hz⟩ : ∃ z, CL[j]? = some z := ⟨_, List.getElem?_eq_getElem (by omega)⟩
     have hzK : KL[j]? = some z := by rw [HK.out.2.2.2.2.2.1 j (by omega)]; exact hz
     have hzj : CL.drop j = z :: CL.drop (j + 1) := by
      obtain ⟨hl, he⟩ := List.getElem?_eq_some_iff.1 hz
      rw [List.drop_eq_getElem_cons hl, he]
     obtain ⟨hzi1, hzi2⟩ := List.getElem?_eq_some_iff.1 hzK
     have z0 := (child_2 fun j u hu => child_cells (l := KL) hcell hzi1 j u hu).1
     rw [hzi2] at z0
     rw [hzj] at hsr HC htr
     obtain ⟨q, hq⟩ := List.exists_mem_of_ne_nil _ hqne
     have hqr := htr.inR q hq
     have hlz : lessB x.key z.key = true := lessB_of_le_lt hqr.1 (hqr.2 _ rfl)
     have hzne : z.key ≠ [] := fun e => by rw [e, lessB_nil] at hlz; cases hlz
     have hend : (hi' == ([] : Bytes)) = true ∨ ((hi' == ([] : Bytes)) = false ∧ Op.bytesLess z.key hi' = true) := by
      rcases HD.out.top with ⟨_, e⟩ | ⟨e, e2⟩
      ·exact .inl (by simpa using e)
      ·refine .inr ⟨by simpa using e2, ?_⟩
       obtain ⟨r1, r2, _, _, rfl, _, ⟨_, hr1⟩, _⟩ := _root_.id hsr
       obtain ⟨u, hu⟩ := List.exists_mem_of_ne_nil _ hr1
       have hur := hsr.inR u (List.mem_append_left _ hu)
       exact lessB_of_le_lt hur.1 (hur.2 _ e)
     have HT : Hid (HiT (nextB (z :: CL.drop (j + 1)) hi) z.key) := .inr ⟨rfl, hzne⟩
     obtain ⟨zk, zp⟩ := z
     simp only at z0 hend HT
     clear hz hzK hzj hzi1 hzi2 hsr htr hq hqr hlz hzne hps hi2 hht hht1 hSK hcl hcell hownr hbnr hyk hx hdr hy hyi2
     rcases hend with hz | ⟨hz1, hz2⟩
     ·go_wp2_with (fail)
      go_must (refine (HC.out _ _ ((Below.refl _ _).alloc (Nat.le_refl _) _) HT.out).mono ?_)
      rintro e w5 ⟨rfl, hS5⟩
      have HS5 := Lib.hid (HNx.out _ hS5)
      clear hS5
      go_wp2_with (fail)
      go_roundg (gk - 1)
      case measure => omega
      case rel => exact ⟨j, rfl, by omega, HS5.out⟩
     ·go_wp2_with (fail)
      go_must (refine (HC.out _ _ ((Below.refl _ _).alloc (Nat.le_refl _) _) HT.out).mono ?_)
      rintro e w5 ⟨rfl, hS5⟩
      have HS5 := Lib.hid (HNx.out _ hS5)
      clear hS5
      go_wp2_with (fail)
      go_roundg (gk - 1)
      case measure => omega
      case rel => exact ⟨j, rfl, by omega, HS5.out⟩
    ·have hjn' : ¬ (j : Int) < (n : Int) := by omega
     have hdj : CL.drop j = [] := List.drop_eq_nil_of_le (by omega)
     rw [hdj] at HC
     have HT : Hid (HiT (nextB [] hi) hi') := HD.out.top
     clear hsr htr hps hi2 hht hht1 hSK hcl hcell hownr hbnr hyk hx hdr hy hyi2 hdj
     go_wp2_with (fail)
     go_must (refine (HC.out _ _ ((Below.refl _ _).alloc (Nat.le_refl _) _) HT.out).mono ?_)
     rintro e w5 ⟨rfl, hS5⟩
     have HS5 := Lib.hid (HNx.out _ hS5)
     clear hS5
     go_wp2_with (fail)
     go_roundg (gk - 1)
     case measure => omega
     case rel => exact ⟨j, rfl, by omega, HS5.out⟩
   ·have hii : i = n := by omega
    have hlt2 : ¬ (i : Int) < (n : Int) := by omega
    have HE : Hid (SeeK p b sb iv (ids ++ ci) T (ks + (ps.length : Int)) w wr) := by
     obtain ⟨pd, psr, done, rest, ht1, hseg, hps, hi2, hht, hht1, hSK⟩ := hI.out.ex
     have hCn : CL.length = n := by rw [← HK.out.2.2.2.1, HN.out]
     rw [List.drop_eq_nil_of_le (by omega)] at hseg
     obtain ⟨rfl, rfl⟩ := hseg
     rw [List.append_nil] at hps hi2
     have hn0 : 0 < i := by
      have := HK.out.2.2.2.2.2.2
      have := (List.getElem?_eq_some_iff.1 this).1
      omega
     rw [hht1 hn0] at hSK
     have := SeeK.join HJ.out.1 HJ.out.2.1 hSK
     rw [List.append_assoc] at this
     rw [HK.out.2.1, hi2, hps]
     exact this
    clear hI
    go_wp2_with (fail)
    go_ret
    exact ⟨rfl, HE.out⟩
end
end Go.Ev

set_option linter.unusedVariables false
set_option linter.unusedSimpArgs false
namespace Go.Ev
open Go.Proofs Go.RowKit
section
variable {p most cnt : Nat} {c : Pc} {M : Store}
def AllP (p : Nat) (ci : List Int) (T ks : Int) (w : World) (e : Ending) (w' : World) : Prop :=
 ∃ b sb iv, e = .returned (.tuple #[ptrV b, .int .i64 0]) ∧ Blk w' b 181 #[ptrV p, iv, .map (some sb), .int .i64 T, .int .i64 ks] ∧ w'.ownsRow w.heap.size 3 1 iv ci.length (intsV (sortZs ci)) ∧ Below w.heap.size w w'
set_option maxHeartbeats 4000000 in
set_option maxRecDepth 100000 in
theorem all_ok (root : Int) (k : Nat) (ps : List Pair) (ci : List Int) (w : World) (h : PgOk w p c most M cnt) (hT : TopAt M k root ps ci) (hsh : Short ps) (hnd : ci.Nodup) (hfew : ci.length ≤ 100000) (hk : k < 30) (hps : ps.length ≤ 90000) :
  Calls Tryz.prog 97 #[ptrV p, .int .i64 root] w (AllP p ci ((k : Int) + 1) (ps.length : Int) w) := by
 have hMM : ∀ (t : TypeId) (W : World), (Instr.makeMap t none).run Tryz.prog W = .ok (.map (some W.heap.size)) (W.alloc (.map #[] 0)) := fun t W => run_makeMap t W
 obtain ⟨w1, hw1⟩ : ∃ w1, w.alloc (.map #[] 0) = w1 := ⟨_, rfl⟩
 obtain ⟨w2, hw2⟩ : ∃ w2, w1.alloc (.cells #[ptrV p, .slice none 0 0, .map (some w.heap.size), .int .i64 0, .int .i64 0] 181) = w2 := ⟨_, rfl⟩
 have hz1 : w1.heap.size = w.heap.size + 1 := by rw [← hw1]; simp
 have hb2 : Below w.heap.size w w2 := by rw [← hw2, ← hw1]; exact ((Below.refl _ _).alloc (Nat.le_refl _) _).alloc (by simp) _
 have hS : SeeAt w2 p w1.heap.size w.heap.size (.slice none 0 0) [] [] 0 0 0 := ⟨by rw [← hw2]; exact Blk.new _ _ _, World.ownsRow_nil _ _ _ _, by rw [← hw2, ← hw1]; exact (MapI.newM w).allocM _, fun j => by simp [keysE]⟩
 have hpre : DnPre p w1.heap.size w.heap.size c most cnt M k w2 (.slice none 0 0) [] 0 0 root [] [] none ps ci 0 ((k : Int) + 1) := ⟨⟨_, _, hS⟩, h.below hb2, (fun j hj e => by
  have := h.lt j hj
  rcases e with e | e | e
  ·omega
  ·omega
  ·cases e), hT.tree, .inr hT.wide, .inl ⟨rfl, rfl⟩, .inr rfl, hsh, by simpa using hnd, by simpa using hfew, by simp, .inl rfl, by omega, by omega, by omega⟩
 have HD := Lib.hid (seeDown_ok k _ _ _ _ _ root [] [] none ps ci 0 _ hpre)
 simp only [List.nil_append] at HD
 have HB2 := Lib.hid hb2
 have hne : ci ≠ [] := by
  intro e
  cases k with
  | zero => obtain ⟨_, _, _, _, _, _, e2, _⟩ := hT.tree; rw [e] at e2; cases e2
  | succ k => obtain ⟨_, _, _, _, _, _, _, _, _, e2⟩ := hT.tree; rw [e] at e2; cases e2
 have HZ := Lib.hid hz1
 clear h hT hsh hnd hS hpre hb2 hz1 hne
 go_enter Tryz.func97, Tryz.ntmps97
 go_wp2_with (fail)
 go_must (refine HD.out.mono ?_)
 rintro e w3 ⟨rfl, hK⟩
 obtain ⟨iv, l', cc', hA, hO⟩ := hK.ex
 have hbl : Below w.heap.size w w3 := HB2.out.trans (hK.keeps.below HB2.out.size fun i hi e => by
  have := HZ.out
  rcases e with e | e | e
  ·omega
  ·omega
  ·cases e)
 have c1 : w3.cell? ⟨w1.heap.size, 1, none⟩ = some iv := hA.blk.cell 1
 have hbase : ∀ k, iv.ownBlock = some k → w.heap.size ≤ k := fun k e => by
  rcases hO k e with e | e
  ·cases e
  ·have := HB2.out.size; omega
 have hrow : w3.ownsRow w.heap.size 3 1 iv ci.length (intsV ci) := by
  refine ⟨hA.row.1, ?_⟩
  rcases hA.row.2 with hn | ⟨g, cap, cur, rfl, _, rest⟩
  ·exact .inl hn
  ·exact .inr ⟨g, cap, cur, rfl, hbase g rfl, rest⟩
 have HSo := Lib.hid (sort_any iv ci w.heap.size w3 hrow (by omega))
 have hne : ∀ k, iv.ownBlock = some k → k ≠ w1.heap.size := own_ne hA.row hA.blk (by decide)
 have HA := Lib.hid (And.intro hA.blk (And.intro hbl hne))
 obtain ⟨Ai, ci', rfl, _⟩ := Sl.of_own hrow
 have HBs := Lib.hid hbase
 clear hK hA hO hbl hrow hne hbase
 go_wp2_with (fail)
 go_must (refine HSo.out.mono ?_)
 rintro e w4 ⟨rfl, hown, hK4⟩
 obtain ⟨hblk, hbl, hne⟩ := HA.out
 have HE : Hid (AllP p ci ((k : Int) + 1) (ps.length : Int) w (.returned (.tuple #[ptrV w1.heap.size, .int .i64 0])) w4) := by
  refine ⟨w1.heap.size, w.heap.size, _, rfl, ?_, hown, hbl.trans (hK4.below hbl.size fun i hi e => by have := HBs.out i e; omega)⟩
  have := hblk.keeps hK4 (fun e => hne _ e rfl)
  simpa using this
 clear hown hK4 hblk hbl hne
 go_wp2_with (fail)
 refine bodyPost_ret (v := .tuple #[ptrV w1.heap.size, .int .i64 0]) (by simp [results, Tryz.results97, go_sem]) rfl ?_
 exact HE.out
end
end Go.Ev
