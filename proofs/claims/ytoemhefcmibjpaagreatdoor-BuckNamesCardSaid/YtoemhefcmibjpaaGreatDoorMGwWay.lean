/-
  The way down to the leaf of a key.
-/
import Derived.Test.YtoemhefcmibjpaaGreatDoorMEvInsert
import Derived.Test.YtoemhefcmibjpaaGreatDoorMGwLoad
set_option linter.unusedVariables false
set_option linter.unusedSimpArgs false
set_option linter.unusedVariables false
set_option linter.unusedSimpArgs false
namespace Go.Ev
open Go.Proofs Go.RowKit
structure Step where
 id : Int
 at' : Nat
 v : Value
 L : List Child
def stepCs (s : Step) : List Value := [.int .i64 s.id, .int .i64 s.at', s.v]
def stepsCs : List Step → List Value
 | [] => []
 | s :: l => stepCs s ++ stepsCs l
theorem stepsCs_snoc (s : Step) : ∀ l : List Step, stepsCs (l ++ [s]) = stepsCs l ++ stepCs s
 | [] => by simp [stepsCs]
 | x :: l => by simp [stepsCs, stepsCs_snoc s l]
def Step.ghost (s : Step) : Int × Nat × List Child := (s.id, s.at', s.L)
inductive Way (M : Store) (key : Bytes) : Nat → Int → List (Int × Nat × List Child) → Int → List Item → Prop
 | leaf {k : Nat} {id : Int} {items : List Item} : M id = some ⟨2, 0, layI items⟩ → riseI items = true → (layI items).length ≤ 240 → (items ≠ [] ∨ k = 0) → k < 30 → Way M key k id [] id items
 | branch {k : Nat} {id lid : Int} {L : List Child} {items : List Item} {x : Child} {P : List (Int × Nat × List Child)} : M id = some ⟨3, 0, layC L⟩ → rightC L = true → (layC L).length ≤ 240 → (2 ≤ L.length ∨ 0 < k) → k < 30 → L[findC key L]? = some x →
   Way M key (k + 1) x.page P lid items → Way M key k id ((id, findC key L, L) :: P) lid items
theorem Way.head {M : Store} {key : Bytes} {k : Nat} {id lid : Int} {P : List (Int × Nat × List Child)} {items : List Item} (h : Way M key k id P lid items) :
  (M id = some ⟨2, 0, layI items⟩ ∧ riseI items = true ∧ (layI items).length ≤ 240 ∧ (items ≠ [] ∨ k = 0) ∧ k < 30 ∧ P = [] ∧ id = lid) ∨
  ∃ L x Q, M id = some ⟨3, 0, layC L⟩ ∧ rightC L = true ∧ (layC L).length ≤ 240 ∧ (2 ≤ L.length ∨ 0 < k) ∧ k < 30 ∧ L[findC key L]? = some x ∧ P = (id, findC key L, L) :: Q ∧ Way M key (k + 1) x.page Q lid items := by
 cases h with
 | leaf h1 h2 h3 h4 h5 => exact .inl ⟨h1, h2, h3, h4, h5, rfl, rfl⟩
 | branch h1 h2 h3 h4 h5 h6 h7 => exact .inr ⟨_, _, _, h1, h2, h3, h4, h5, h6, rfl, h7⟩
theorem infoStep : (Tryz.prog.info? 155).map (fun i => (i.zero, i.size, i.bytes)) = some (some (.agg #[.int .i64 0, .int .i64 0, .slice none 0 0]), 3, 40) := by kernel_rfl
theorem own_apart {w : World} {b1 b2 z1 z2 n1 n2 : Nat} {e1 e2 : TypeId} {v1 v2 : Value} {x1 x2 : List Value} (h1 : w.ownsRow b1 e1 z1 v1 n1 x1) (h2 : w.ownsRow b2 e2 z2 v2 n2 x2) (he : e1 ≠ e2) : ∀ k, v1.ownBlock = some k → v2.ownBlock ≠ some k := by
 intro k h3 h4
 rcases h1.2 with ⟨rfl, _⟩ | ⟨g, cap, cur, rfl, _, hg, _⟩
 ·cases h3
 ·rcases h2.2 with ⟨rfl, _⟩ | ⟨g2, cap2, cur2, rfl, _, hg2, _⟩
  ·cases h4
  ·simp only [Value.ownBlock, Option.some.injEq] at h3 h4
   subst h3 h4
   rw [hg] at hg2
   simp at hg2
   exact he hg2.2
theorem layC_len : ∀ L : List Child, L.length * 2 ≤ (layC L).length := by
 intro L
 induction L with
 | nil => simp [layC]
 | cons x l ih =>
  have h1 := Go.Lib.uvarint_pos (Go.Lib.zigzag x.page)
  have h2 := Go.Lib.uvarint_pos (Go.Lib.zigzag (x.key.length : Int))
  simp only [layC, Child.lay, textB, varB, List.length_append, List.length_cons]
  omega
def StepsOk (w : World) (base : Nat) (l : List Step) : Prop := ∀ s ∈ l, OwnsC w base s.v s.L ∧ rightC s.L = true
theorem StepsOk.below {w w' : World} {base : Nat} {l : List Step} (h : StepsOk w base l) (hb : Below w.heap.size w w') : StepsOk w' base l := fun s hs => ⟨own_below (h s hs).1 hb, (h s hs).2⟩
def WayP (P : List (Int × Nat × List Child)) (lid : Int) (items : List Item) (w : World) (e : Ending) (w' : World) : Prop :=
 ∃ pv st vi, e = .returned (.tuple #[pv, .int .i64 lid, vi, .int .i64 0]) ∧ w'.ownsRow w.heap.size 155 3 pv st.length (stepsCs st) ∧ st.map Step.ghost = P ∧ StepsOk w' w.heap.size st ∧ OwnsI w' w.heap.size vi items ∧ Below w.heap.size w w'
section
variable {p : Nat} {c : Pc} {most cnt : Nat} {M : Store}
set_option maxHeartbeats 2000000 in
set_option maxRecDepth 100000 in
theorem way_ok (id : Int) (key : Bytes) (P : List (Int × Nat × List Child)) (lid : Int) (items : List Item) (w : World) (h : PgOk w p c most M cnt) (hw : Way M key 0 id P lid items) :
  Calls Tryz.prog 40 #[ptrV p, .int .i64 id, strV key] w (WayP P lid items w) := by
 obtain ⟨i0, hi, hz0, hz1, hz2⟩ := info_parts infoStep
 go_enter Tryz.func40, Tryz.ntmps40
 go_wp2
 go_loopg [10, 11] P.length (fun gk s10 s11 wr => ∃ (done : List Step) (rest : List (Int × Nat × List Child)) (cur : Int), s11 = .int .i64 cur ∧ rest.length ≤ gk ∧ Hid (done.map Step.ghost ++ rest = P) ∧ Hid (Way M key done.length cur rest lid items) ∧ wr.ownsRow w.heap.size 155 3 s10 done.length (stepsCs done) ∧ Hid (StepsOk wr w.heap.size done) ∧ Below w.heap.size w wr)
 case atStart => exact ⟨[], P, id, rfl, Nat.le_refl _, rfl, hw, World.ownsRow_nil _ _ _ _, fun s hs => absurd hs (by simp), Below.refl _ _⟩
 case round =>
  obtain ⟨done, rest, cur, rfl, hg, hP, hway, hown, hst, hb⟩ := hrel
  have hpg := h.below hb
  have hz := hb.size
  obtain ⟨A, cc, rfl, _⟩ := Sl.of_own hown
  rcases hway.out.head with ⟨hm, hr, hs, hne, hk, hR, hcur⟩ | ⟨L, x, Q, hm, hr, hs, hne, hk, hat, hR, hQ⟩
  ·subst hcur
   subst hR
   have HX := Lib.hid (load_leaf cur done.length items wr hpg hm hr hs hk hne)
   clear hm hr hway hne h hpg
   go_wp2_with (fail)
   go_must (refine HX.out.mono ?_)
   rintro e w1 ⟨v, rfl, hIt, hb1⟩
   unfold OwnsI at hIt
   obtain ⟨B, d, rfl, _⟩ := Sl.of_own hIt
   have bx : Blk (w1.alloc (.cells #[.bool true, .slice B items.length d, .slice none 0 0] 150)) w1.heap.size 150 #[.bool true, .slice B items.length d, .slice none 0 0] := Blk.new _ _ _
   have x0 : (w1.alloc (.cells #[.bool true, .slice B items.length d, .slice none 0 0] 150)).cell? ⟨w1.heap.size, 0, none⟩ = some (.bool true) := bx.cell 0
   have x1 : (w1.alloc (.cells #[.bool true, .slice B items.length d, .slice none 0 0] 150)).cell? ⟨w1.heap.size, 1, none⟩ = some (.slice B items.length d) := bx.cell 1
   have hs1 := hb1.size
   have HO := Lib.hid ((own_below hown hb1).alloc (.cells #[.bool true, .slice B items.length d, .slice none 0 0] 150))
   have HI := Lib.hid ((own_base hIt hz).alloc (.cells #[.bool true, .slice B items.length d, .slice none 0 0] 150))
   have HS := Lib.hid ((hst.out.below hb1).below ((Below.refl _ w1).alloc (Nat.le_refl _) (.cells #[.bool true, .slice B items.length d, .slice none 0 0] 150)))
   have HB := Lib.hid ((hb.trans (hb1.mono hz)).alloc (by omega) (.cells #[.bool true, .slice B items.length d, .slice none 0 0] 150))
   clear hown hIt hst hb hb1 hs
   go_wp2_with (fail)
   refine wp_region_any (by kernel_rfl) ?_
   change wpAny _ _ _ _ _ _ _ (World.drew _)
   try simp only [Act.put, lT, l0, lS]
   refine tA 0 ?_; try simp only [Act.put, lT, l0, lS]
   refine tA 1 ?_; try simp only [Act.put, lT, l0, lS]
   refine tA 2 ?_; try simp only [Act.put, lT, l0, lS]
   refine tA 4 ?_; try simp only [Act.put, lT, l0, lS]
   refine tA 5 ?_; try simp only [Act.put, lT, l0, lS]
   refine rd 3 (by kernel_rfl) rfl (fun K hK => ?_); go_simp; refine hK _ _ ?_; clear hK K
   refine rd 6 (by kernel_rfl) rfl (fun K hK => ?_); go_simp; refine hK _ _ ?_; clear hK K
   refine rd 7 (by kernel_rfl) rfl (fun K hK => ?_); go_simp; refine hK _ _ ?_; clear hK K
   refine wpAny_done (by kernel_rfl) ?_ _
   go_wp2_with (fail)
   refine bodyPost_ret (v := .tuple #[.slice A done.length cc, .int .i64 cur, .slice B items.length d, .int .i64 0]) (by simp [results, Tryz.results40, go_sem]) rfl ?_
   exact ⟨_, done, _, rfl, HO.out, by have := hP.out; rwa [List.append_nil] at this, HS.out, HI.out, HB.out.drew⟩
  ·subst hR
   have HX := Lib.hid (load_branch cur done.length L wr hpg hm hr hs hk hne)
   have hl2 := layC_len L
   have hL120 : L.length ≤ 120 := by omega
   have hq30 : done.length < 30 := hk
   clear hm hway hne h hpg
   go_wp2_with (fail)
   go_must (refine HX.out.mono ?_)
   rintro e w1 ⟨v, rfl, hIt, hb1⟩
   unfold OwnsC at hIt
   obtain ⟨B, d, rfl, hBr⟩ := Sl.of_own hIt
   have bx : Blk (w1.alloc (.cells #[.bool false, .slice none 0 0, .slice B L.length d] 150)) w1.heap.size 150 #[.bool false, .slice none 0 0, .slice B L.length d] := Blk.new _ _ _
   have x0 : (w1.alloc (.cells #[.bool false, .slice none 0 0, .slice B L.length d] 150)).cell? ⟨w1.heap.size, 0, none⟩ = some (.bool false) := bx.cell 0
   have x2 : (w1.alloc (.cells #[.bool false, .slice none 0 0, .slice B L.length d] 150)).cell? ⟨w1.heap.size, 2, none⟩ = some (.slice B L.length d) := bx.cell 2
   have hs1 := hb1.size
   have HO := Lib.hid ((own_below hown hb1).alloc (.cells #[.bool false, .slice none 0 0, .slice B L.length d] 150))
   have hI2 := (own_base hIt hz).alloc (.cells #[.bool false, .slice none 0 0, .slice B L.length d] 150)
   have HS := Lib.hid ((hst.out.below hb1).below ((Below.refl _ w1).alloc (Nat.le_refl _) (.cells #[.bool false, .slice none 0 0, .slice B L.length d] 150)))
   have HB := Lib.hid ((hb.trans (hb1.mono hz)).alloc (by omega) (.cells #[.bool false, .slice none 0 0, .slice B L.length d] 150))
   have HF := Lib.hid (findC_any B L.length d L key _ (Sl.of_own hI2) (by omega) hr)
   have HI := Lib.hid hI2
   clear hown hIt hst hb hb1 hs hI2
   go_wp2_with (fail)
   go_must (refine HF.out.mono ?_)
   rintro e w2 ⟨rfl, rfl⟩
   have hat1 := (List.getElem?_eq_some_iff.1 hat).1
   have hm1 : done.length + 1 ≤ maxLen := by unfold maxLen; omega
   go_wp2_with (at_builtin; go_must (refine wpList_append_own _ rfl _ _ 87 rfl w.heap.size 155 i0 _ 3 40 Tryz.underlying87 hi hz0 hz1 hz2 rfl (by decide) _ done.length (stepsCs done) rfl (HO.out.alloc _) ⟨w1.heap.size + 1, 0, none⟩ 1 1 (stepCs ⟨cur, findC key L, .slice B L.length d, L⟩) rfl rfl (row_newI _ (stepCs ⟨cur, findC key L, .slice B L.length d, L⟩) _ _ (by simp)) (by simp [Value.oneCell', stepCs]) hm1 (by omega) (by simp; omega) ?_))
   intro v4 w4 own4 hg4 _
   have K4 : Keeps (fun k => _ = some k) (w1.alloc (.cells #[.bool false, .slice none 0 0, .slice B L.length d] 150)) w4 := ((Keeps.refl (fun k => _ = some k) _).alloc _).grown hg4 (fun k hk _ => hk)
   have bx4 := bx.keeps K4 (fun e => own_ne HO.out bx (by decide) _ e rfl)
   have y2 : w4.cell? ⟨w1.heap.size, 2, none⟩ = some (.slice B L.length d) := bx4.cell 2
   have hI4 := own_keeps HI.out K4 (fun k hk e => own_apart HI.out HO.out (by decide) k hk e)
   have HS4 : Hid (StepsOk w4 w.heap.size (done ++ [⟨cur, findC key L, .slice B L.length d, L⟩])) := by
    intro s hs
    rcases List.mem_append.1 hs with hs | hs
    ·have := HS.out s hs
     exact ⟨own_keeps this.1 K4 (fun k hk e => own_apart this.1 HO.out (by decide) k hk e), this.2⟩
    ·simp only [List.mem_singleton] at hs
     subst hs
     exact ⟨hI4, hr⟩
   have HB4 := Lib.hid (HB.out.trans (K4.below HB.out.size (fun i hi hk => by have := (HO.out.lt i hk).1; omega)))
   have HO4 : Hid (w4.ownsRow w.heap.size 155 3 v4 (done ++ [(⟨cur, findC key L, .slice B L.length d, L⟩ : Step)]).length (stepsCs (done ++ [⟨cur, findC key L, .slice B L.length d, L⟩]))) := by
    show World.ownsRow _ _ _ _ _ _ _
    rw [stepsCs_snoc, List.length_append]
    exact own4
   obtain ⟨A', c', e0, _, _, hcl⟩ := Sl.of_own hI4
   cases e0
   obtain ⟨blk, off, rfl, hbl, hcell⟩ := hcl (by omega)
   obtain ⟨_, j1⟩ := child_2 (w := w4) fun i u hu => child_cells hcell hat1 i u hu
   rw [List.getElem?_eq_getElem hat1, Option.some.injEq] at hat
   subst hat
   have hP2 : Hid ((done ++ [(⟨cur, findC key L, .slice (some ⟨blk, off, none⟩) L.length d, L⟩ : Step)]).map Step.ghost ++ Q = P) := by
    show _ = _
    rw [← hP.out]
    simp [Step.ghost]
   have HQ2 : Hid (Way M key (done ++ [(⟨cur, findC key L, .slice (some ⟨blk, off, none⟩) L.length d, L⟩ : Step)]).length L[findC key L].page Q lid items) := by
    show Way _ _ _ _ _ _ _
    rw [List.length_append]
    exact hQ
   clear own4 hg4 hcell hI4 hcl K4 hBr hP hQ HX HF
   have hf0 : (0 : Int) ≤ (findC key L : Int) := by omega
   have hfl : (findC key L : Int) < (L.length : Int) := by omega
   go_wp2_with (fail)
   go_roundg Q.length
   case measure => simp at hg; omega
   case rel => exact ⟨done ++ [(⟨cur, findC key L, .slice (some ⟨blk, off, none⟩) L.length d, L⟩ : Step)], Q, _, rfl, Nat.le_refl _, hP2, HQ2, HO4.out, HS4, HB4.out⟩
end
end Go.Ev
