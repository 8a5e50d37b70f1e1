/-
  What tree.up's walks lean on.
-/
import Derived.RangeFuncNested
import Derived.RangeFuncBound
import Derived.RangeFuncCalls
import Derived.RangeFuncLeaves
import Derived.Shelf.Abstract
import Derived.Shelf.RegionOpen
import Derived.WalkKit
import Derived.OwnWalkIn
import Derived.TacticsInMore
import Derived.LoopNIn
import Derived.LoopIn
import Derived.Test.YtoemhefcmibjpaaGreatDoorMGwKey
import Derived.Test.YtoemhefcmibjpaaGreatDoorMEvInsert
import Derived.Test.YtoemhefcmibjpaaGreatDoorMGvUpsG
set_option linter.unusedVariables false
set_option linter.unusedSimpArgs false
set_option linter.unusedVariables false
set_option linter.unusedSimpArgs false
namespace Go.Ev
open Go.Proofs Go.RowKit Go.Shelf
attribute [local go_sem] Oper.semAt_some
theorem WkOk.notStep {p most cnt : Nat} {x : Wc} {M : Store} {made dropped : List Int} {w : World} {b : Nat} {i0 : Int} {at' v : Value} (h : WkOk w p x most M cnt made dropped) (hb : Blk w b 155 #[.int .i64 i0, at', v]) : ¬ x.S p b := by
 have hT : ∀ {t : TypeId} {cs : Array Value}, Blk w b t cs → t = 155 := fun h1 => by
  unfold Blk at h1 hb
  rw [hb] at h1
  simp only [Option.some.injEq, Obj.cells.injEq] at h1
  exact h1.2.1.symm
 have hM : ∀ {l : List Ent} {c : Nat}, ¬ MapI w b l c := fun h1 => by
  unfold MapI at h1
  unfold Blk at hb
  rw [hb] at h1
  cases h1
 obtain ⟨n, mm, was, mc, wc, dc, spare, g, _⟩ := h.pg
 rintro ((hk | hk | hk | hk) | rfl | hk | hk)
 ·simp only [Pc.ids, List.mem_cons, List.not_mem_nil, or_false] at hk
  rcases hk with rfl | rfl | rfl | rfl | rfl | rfl | rfl
  ·exact absurd (hT g.blk) (by decide)
  ·exact absurd (hT g.dev.blk) (by decide)
  ·exact absurd (hT g.fre) (by decide)
  ·have h1 := g.spr.1
   have h2 : w.cell? ⟨x.c.sb, 0, none⟩ = some (.int .i64 i0) := hb.cell 0
   rw [h1] at h2
   obtain ⟨A, c, e, _⟩ := Sl.of_own g.spr.2.2.2.1
   rw [Option.some.inj h2] at e
   cases e
  ·exact hM g.mad
  ·exact hM g.dro
  ·exact hM g.wwas
 ·exact own_ne g.spr.2.2.2.1 hb (by decide) _ hk rfl
 ·obtain ⟨cs, hr⟩ := g.dev.srow; exact own_ne hr hb (by decide) _ hk rfl
 ·obtain ⟨cs, hr⟩ := g.dev.nrow; exact own_ne hr hb (by decide) _ hk rfl
 ·exact absurd (hT h.blk) (by decide)
 ·exact own_ne h.mo hb (by decide) _ hk rfl
 ·exact own_ne h.dr hb (by decide) _ hk rfl
theorem blk_turn {w w' : World} {b B : Nat} {t : TypeId} {cs : Array Value} {row : Option Nat} (h : Blk w b t cs) (hg : w.grownBy w' row) (hr : ∀ r, row = some r → B ≤ r ∧ ∃ o : Obj, w.heap[r]? = some o ∧ o.isCells = false) : Blk w' b t cs :=
 h.keeps (S := fun k => row = some k) ((Keeps.refl (fun k => row = some k) w).grown hg (fun _ e _ => e)) fun e => by
  obtain ⟨_, o, h1, h2⟩ := hr _ e
  unfold Blk at h
  rw [h] at h1
  cases h1
  cases h2
theorem own_turn {w w' : World} {B base z n : Nat} {e : TypeId} {v : Value} {xs : List Value} {row : Option Nat} (h : w.ownsRow base e z v n xs) (hg : w.grownBy w' row) (hr : ∀ r, row = some r → B ≤ r ∧ ∃ o : Obj, w.heap[r]? = some o ∧ o.isCells = false) : w'.ownsRow base e z v n xs :=
 own_keeps h ((Keeps.refl (fun k => row = some k) w).grown hg (fun _ e _ => e)) fun k hk e => by
  obtain ⟨_, o, h1, h2⟩ := hr _ e
  obtain ⟨o', h3, h4⟩ := own_cells h k hk
  rw [h1] at h3
  cases h3
  rw [h2] at h4
  cases h4
section
variable {p most cnt : Nat} {x : Wc} {M : Store} {made dropped : List Int}
theorem drop_turn {W : World} (h : WkOk W p x most M cnt made dropped) (id : Int) {v4 : Value} {w4 : World} (own4 : w4.ownsRow 0 3 1 v4 (dropped.length + 1) (intsV dropped ++ [.int .i64 id])) (hg4 : (W.alloc (.cells #[.int .i64 id] 3)).drew.grownBy w4 x.dv.ownBlock)
  (hw4 : ∀ k, v4.ownBlock = some k → x.dv.ownBlock = some k ∨ (W.alloc (.cells #[.int .i64 id] 3)).drew.heap.size ≤ k) :
  WkOk (w4.setCell ⟨x.b, 2, none⟩ v4) p { x with dv := v4 } most M cnt made (dropped ++ [id]) ∧ WkK p x { x with dv := v4 } W (w4.setCell ⟨x.b, 2, none⟩ v4) := by
 have h1 := (h.alloc (.cells #[.int .i64 id] 3)).drew
 obtain ⟨h3, kk3⟩ := h1.grownD (l := [id]) hg4 own4 hw4
 exact ⟨h3, (WkK.of_below (((Below.refl _ W).alloc (Nat.le_refl _) _).drew)).trans kk3⟩
theorem drop_cells {W : World} (h : WkOk W p x most M cnt made dropped) (id : Int) {w4 : World} (hg4 : (W.alloc (.cells #[.int .i64 id] 3)).drew.grownBy w4 x.dv.ownBlock) :
  w4.cell? ⟨x.b, 2, none⟩ = some x.dv ∧ w4.frozen? ⟨x.b, 2, none⟩ = false ∧ ∀ b v, b < W.heap.size → (∀ k, x.dv.ownBlock = some k → k ≠ b) → W.cell? ⟨b, 0, none⟩ = some v → w4.cell? ⟨b, 0, none⟩ = some v := by
 have h1 := (h.alloc (.cells #[.int .i64 id] 3)).drew
 have bb := h1.blkD hg4
 refine ⟨bb.cell 2, bb.frozen 2, fun b v hb hn hc => ?_⟩
 have K1 : Keeps (fun k => x.dv.ownBlock = some k) ((W.alloc (.cells #[.int .i64 id] 3)).drew) w4 := (Keeps.refl (fun k => x.dv.ownBlock = some k) _).grown hg4 (fun k hk _ => hk)
 have e : w4.heap[b]? = W.heap[b]? := (K1.block b (by simp; omega) (fun e => hn b e rfl)).trans (Below.heap_alloc _ _ _ hb)
 unfold World.cell? at hc ⊢
 rw [e]
 exact hc
theorem rev_split (st : List Step) (k : Nat) (h : k < st.length) : (st.map Step.ghost).reverse = (st.map Step.ghost).reverse.take k ++ (st[st.length - 1 - k]'(by omega)).ghost :: (st.map Step.ghost).reverse.drop (k + 1) ∧ (st.map Step.ghost).reverse.take (k + 1) = (st.map Step.ghost).reverse.take k ++ [(st[st.length - 1 - k]'(by omega)).ghost] := by
 have hl : k < (st.map Step.ghost).reverse.length := by simpa using h
 have e : (st.map Step.ghost).reverse[k] = (st[st.length - 1 - k]'(by omega)).ghost := by
  rw [List.getElem_reverse, List.getElem_map]
  simp
 refine ⟨?_, ?_⟩
 ·rw [← e, ← List.drop_eq_getElem_cons hl, List.take_append_drop]
 ·rw [List.take_succ_eq_append_getElem hl, e]
end
end Go.Ev
