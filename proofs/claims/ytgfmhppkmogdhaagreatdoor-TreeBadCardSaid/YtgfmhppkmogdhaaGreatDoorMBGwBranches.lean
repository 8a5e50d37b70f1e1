/-
  Branches are made of children.
-/
import Derived.Test.YtgfmhppkmogdhaaGreatDoorMBGwLeaves
set_option linter.unusedVariables false
set_option linter.unusedSimpArgs false
set_option linter.unusedVariables false
set_option linter.unusedSimpArgs false
namespace Go.Ev
open Go.Proofs Go.RowKit

def BrP1 (p : Nat) (x : Wc) (most : Nat) (M : Store) (cnt : Nat) (made dropped : List Int) (k : Bytes) (L : List Child) (w : World) (e : Ending) (w' : World) : Prop :=
  ∃ id x' v, e = .returned (.tuple #[v, .int .i64 0]) ∧ M id = none ∧ 2 ≤ id ∧ id ≤ 100000 ∧ OwnsC w' w.heap.size v [⟨k, id⟩] ∧ (∀ k, v.ownBlock = some k → ¬ x'.S p k) ∧
    WkOk w' p x' most (updS M id (some ⟨3, 0, layC L⟩)) (cnt + 1) (made ++ [id]) dropped ∧ WkK p x x' w w'

theorem putC_fit {l : List Child} (hr : rightC l = true) (hs : (layC l).length ≤ 240) : putC l = (layC l, 0) := by
  unfold putC
  simp [hr]
  omega
theorem putC_long {l : List Child} (hr : rightC l = true) (hs : 240 < (layC l).length) : putC l = ([], 2) := by
  unfold putC
  simp [hr, hs]

/-- The first child's own row. -/
theorem sl_child1 (w : World) (c0 : Child) : Sl (w.alloc (.cells #[strV c0.key, .int .i64 c0.page] 188)) 2 (.slice (some ⟨w.heap.size, 0, none⟩) 1 1) 1 (childrenCs [c0]) := Sl.of_own (own_child1 w c0.key c0.page)

section
variable {p most cnt : Nat} {x : Wc} {M : Store} {made dropped : List Int} {w w' : World}

set_option maxHeartbeats 1000000 in
set_option maxRecDepth 100000 in
theorem branches1_ok (A : Option Addr) (n c : Nat) (c0 : Child) (r L : List Child) (h : WkOk w p x most M cnt made dropped) (hv : Sl w 2 (.slice A n c) n (childrenCs (c0 :: r))) (hL : L = headKey [] (c0 :: r)) (ho : ChildrenOk L) (hr : rightC L = true) (hs : (layC L).length ≤ 240) (hn : n ≤ 10000) (hroom : cnt + 3 ≤ most) (hmd : made.length ≤ 100000) :
    Calls Tryz.prog 166 #[ptrV x.b, .slice A n c] w (BrP1 p x most M cnt made dropped c0.key L w) := by
  have hl := hv.len2
  have hlt0 : 0 < n := by rw [← hl]; simp
  have HR : Hid (∀ W, Below w.heap.size w W → Calls Tryz.prog 164 #[.slice A n c, .int .i64 0, .slice (some ⟨W.heap.size, 0, none⟩) 1 1] (W.alloc (.cells #[strV c0.key, .int .i64 c0.page] 188)) (ReplPost L (W.alloc (.cells #[strV c0.key, .int .i64 c0.page] 188)))) := by
    intro W hW
    have := replC_any A (some ⟨W.heap.size, 0, none⟩) n c 1 1 0 (c0 :: r) [c0] _ ((hv.below hW).alloc (.cells #[strV c0.key, .int .i64 c0.page] 188)) (sl_child1 W c0) (fun e => by cases e) hn (by omega) hlt0
    rw [hL]
    exact this
  obtain ⟨blk, off, hAe, hbl, hcell⟩ : ∃ blk off, A = some ⟨blk, off, none⟩ ∧ blk < w.heap.size ∧ ∀ j u, (childrenCs (c0 :: r))[j]? = some u → w.cell? ⟨blk, off + j, none⟩ = some u := by
    obtain ⟨_, _, e0, _, _, hcl⟩ := id hv
    cases e0
    exact hcl hlt0
  subst hAe
  have y0 : w.cell? ⟨blk, off, none⟩ = some (strV c0.key) := hcell 0 _ rfl
  have y1 : w.cell? ⟨blk, off + 1, none⟩ = some (.int .i64 c0.page) := hcell 1 _ rfl
  have HP : Hid (∀ (W : World) (A1 : Option Addr) (n1 c1 : Nat), Sl W 2 (.slice A1 n1 c1) n1 (childrenCs L) → Calls Tryz.prog 213 #[.slice A1 n1 c1] W fun e w' => e = .returned (.tuple #[strV (layC L), .int .i64 0]) ∧ Below W.heap.size W w') := by
    intro W A1 n1 c1 q
    have := putC_any A1 n1 c1 L W q ho
    unfold PutCPost at this
    rwa [putC_fit hr hs] at this
  have HPg := Lib.hid (fun (W : World) (hW : WkOk W p x most M cnt made dropped) => page_any ⟨3, 0, layC L⟩ hW ⟨by simp, by simp, by simp, by simp, hs⟩ rfl hroom hmd)
  have HH := Lib.hid h
  clear hcell h hv ho hr hL hl
  go_enter Tryz.func166, Tryz.ntmps166
  go_wp2_with (fail)
  go_must (refine (HR.out _ (Below.refl _ _)).mono ?_)
  rintro e w1 ⟨v1, rfl, hown, hb1⟩
  unfold OwnsC at hown
  obtain ⟨m, hm⟩ : ∃ m, L.length = m := ⟨_, rfl⟩
  rw [hm] at hown
  obtain ⟨A1, c1, rfl, _⟩ := Sl.of_own hown
  have hP1 := Lib.hid (HP.out w1 A1 m c1 (Sl.of_own hown))
  have hbw : Below w.heap.size w w1 := ((Below.refl _ w).alloc (Nat.le_refl _) _).trans (hb1.mono (by simp))
  have HH1 := Lib.hid (HH.out.below hbw)
  clear hown
  go_wp2_with (fail)
  go_must (refine hP1.out.mono ?_)
  rintro e w2 ⟨rfl, hb2⟩
  have HH2 := Lib.hid (HH1.out.below hb2)
  have HB2 := Lib.hid (hbw.trans (hb2.mono hbw.size))
  go_wp2_with (fail)
  go_must (refine (HPg.out w2 HH2.out).mono ?_)
  rintro e w3 ⟨id, x', rfl, hid, hid2, hid3, hW, hK⟩
  have HE : Hid (BrP1 p x most M cnt made dropped c0.key L w (.returned (.tuple #[.slice (some ⟨w3.heap.size, 0, none⟩) 1 1, .int .i64 0])) (w3.alloc (.cells #[strV c0.key, .int .i64 id] 188))) :=
    ⟨id, x', _, rfl, hid, hid2, hid3, own_base (own_child1 w3 c0.key id) (by have := HB2.out.size; have := hK.keeps.size; omega), fun k hk hs => by
      simp only [Value.ownBlock, Option.some.injEq] at hk
      have := hW.lt k hs
      omega, hW.alloc _, ((WkK.of_below HB2.out).trans hK).trans (WkK.of_below ((Below.refl _ _).alloc (Nat.le_refl _) _))⟩
  clear hW hK
  go_wp2_with (fail)
  refine bodyPost_ret (v := .tuple #[.slice (some ⟨w3.heap.size, 0, none⟩) 1 1, .int .i64 0]) (by simp [results, Tryz.results166, go_sem]) rfl ?_
  exact HE.out

def BrP2 (p : Nat) (x : Wc) (most : Nat) (M : Store) (cnt : Nat) (made dropped : List Int) (k1 k2 : Bytes) (La Lb : List Child) (w : World) (e : Ending) (w' : World) : Prop :=
  ∃ i1 i2 x' v, e = .returned (.tuple #[v, .int .i64 0]) ∧ M i1 = none ∧ 2 ≤ i1 ∧ i1 ≤ 100000 ∧ updS M i1 (some ⟨3, 0, layC La⟩) i2 = none ∧ 2 ≤ i2 ∧ i2 ≤ 100000 ∧ OwnsC w' w.heap.size v [⟨k1, i1⟩, ⟨k2, i2⟩] ∧ (∀ k, v.ownBlock = some k → ¬ x'.S p k) ∧
    WkOk w' p x' most (updS (updS M i1 (some ⟨3, 0, layC La⟩)) i2 (some ⟨3, 0, layC Lb⟩)) (cnt + 2) (made ++ [i1, i2]) dropped ∧ WkK p x x' w w'

set_option maxHeartbeats 2000000 in
set_option maxRecDepth 100000 in
theorem branches2_ok (A : Option Addr) (n c : Nat) (c0 : Child) (r L : List Child) (z y : Child) (ra rb La Lb : List Child) (h : WkOk w p x most M cnt made dropped) (hv : Sl w 2 (.slice A n c) n (childrenCs (c0 :: r))) (hL : L = headKey [] (c0 :: r)) (ho : ChildrenOk L) (hr : rightC L = true) (hs : 240 < (layC L).length) (hn : n ≤ 10000)
    (hsp : splitC L = (z :: ra, y :: rb)) (hLa : La = headKey [] (z :: ra)) (hLb : Lb = headKey [] (y :: rb)) (hoa : ChildrenOk La) (hob : ChildrenOk Lb) (hra : rightC La = true) (hrb : rightC Lb = true) (hsa : (layC La).length ≤ 240) (hsb : (layC Lb).length ≤ 240) (hroom : cnt + 4 ≤ most) (hmd : made.length + 1 ≤ 100000) (hna : ra.length ≤ 9000) (hnb : rb.length ≤ 9000) :
    Calls Tryz.prog 166 #[ptrV x.b, .slice A n c] w (BrP2 p x most M cnt made dropped c0.key y.key La Lb w) := by
  obtain ⟨i0, hi, hz0, hz1, hz2⟩ := info_parts infoC
  have hl := hv.len2
  have hlt0 : 0 < n := by rw [← hl]; simp
  have hLn : L.length ≤ 10000 := by rw [hL]; have : (headKey [] (c0 :: r)).length = (c0 :: r).length := by simp [headKey]
                                    omega
  have HR : Hid (∀ W, Below w.heap.size w W → Calls Tryz.prog 164 #[.slice A n c, .int .i64 0, .slice (some ⟨W.heap.size, 0, none⟩) 1 1] (W.alloc (.cells #[strV c0.key, .int .i64 c0.page] 188)) (ReplPost L (W.alloc (.cells #[strV c0.key, .int .i64 c0.page] 188)))) := by
    intro W hW
    have := replC_any A (some ⟨W.heap.size, 0, none⟩) n c 1 1 0 (c0 :: r) [c0] _ ((hv.below hW).alloc (.cells #[strV c0.key, .int .i64 c0.page] 188)) (sl_child1 W c0) (fun e => by cases e) hn (by omega) hlt0
    rw [hL]
    exact this
  obtain ⟨blk, off, hAe, hbl, hcell⟩ : ∃ blk off, A = some ⟨blk, off, none⟩ ∧ blk < w.heap.size ∧ ∀ j u, (childrenCs (c0 :: r))[j]? = some u → w.cell? ⟨blk, off + j, none⟩ = some u := by
    obtain ⟨_, _, e0, _, _, hcl⟩ := id hv
    cases e0
    exact hcl hlt0
  subst hAe
  have y0 : w.cell? ⟨blk, off, none⟩ = some (strV c0.key) := hcell 0 _ rfl
  have y1 : w.cell? ⟨blk, off + 1, none⟩ = some (.int .i64 c0.page) := hcell 1 _ rfl
  have HP : Hid (∀ (W : World) (A1 : Option Addr) (n1 c1 : Nat), Sl W 2 (.slice A1 n1 c1) n1 (childrenCs L) → Calls Tryz.prog 213 #[.slice A1 n1 c1] W fun e w' => e = .returned (.tuple #[strV [], .int .i64 2]) ∧ Below W.heap.size W w') := by
    intro W A1 n1 c1 q
    have := putC_any A1 n1 c1 L W q ho
    unfold PutCPost at this
    rwa [putC_long hr hs] at this
  have HSp : Hid (∀ (W : World) (A1 : Option Addr) (n1 c1 : Nat), n1 ≤ 90000 → Sl W 2 (.slice A1 n1 c1) n1 (childrenCs L) → Calls Tryz.prog 214 #[.slice A1 n1 c1] W (SplitCPost L W)) := fun W A1 n1 c1 q0 q => splitC_any A1 n1 c1 L W q ho q0
  have HL1 : Hid (∀ (W : World) (A1 : Option Addr) (na c1 : Nat), na ≤ 10000 → WkOk W p x most M cnt made dropped → Sl W 2 (.slice A1 na c1) na (childrenCs (z :: ra)) → Calls Tryz.prog 166 #[ptrV x.b, .slice A1 na c1] W (BrP1 p x most M cnt made dropped z.key La W)) :=
    fun W A1 na c1 q0 q1 q2 => branches1_ok A1 na c1 z ra La q1 q2 hLa hoa hra hsa q0 (by omega) (by omega)
  have HL2 : Hid (∀ (W : World) (A1 : Option Addr) (na c1 : Nat) (x1 : Wc) (M1 : Store) (made1 : List Int), na ≤ 10000 → made1.length = made.length + 1 → WkOk W p x1 most M1 (cnt + 1) made1 dropped → Sl W 2 (.slice A1 na c1) na (childrenCs (y :: rb)) → Calls Tryz.prog 166 #[ptrV x1.b, .slice A1 na c1] W (BrP1 p x1 most M1 (cnt + 1) made1 dropped y.key Lb W)) :=
    fun W A1 na c1 x1 M1 made1 qn q0 q1 q2 => branches1_ok A1 na c1 y rb Lb q1 q2 hLb hob hrb hsb qn (by omega) (by omega)
  have HH := Lib.hid h
  have HSP := Lib.hid hsp
  clear hcell h hv ho hr hL hl hsp hLa hLb hoa hob hra hrb hsa hsb hs
  go_enter Tryz.func166, Tryz.ntmps166
  go_wp2_with (fail)
  go_must (refine (HR.out _ (Below.refl _ _)).mono ?_)
  rintro e w1 ⟨v1, rfl, hown, hb1⟩
  unfold OwnsC at hown
  obtain ⟨m, hm⟩ : ∃ m, L.length = m := ⟨_, rfl⟩
  rw [hm] at hown
  obtain ⟨A1, c1, rfl, _⟩ := Sl.of_own hown
  have hP1 := Lib.hid (HP.out w1 A1 m c1 (Sl.of_own hown))
  have hbw : Below w.heap.size w w1 := ((Below.refl _ w).alloc (Nat.le_refl _) _).trans (hb1.mono (by simp))
  have HO1 := Lib.hid hown
  clear hown
  go_wp2_with (fail)
  go_must (refine hP1.out.mono ?_)
  rintro e w2 ⟨rfl, hb2⟩
  have HS2 := Lib.hid (HSp.out w2 A1 m c1 (by omega) ((Sl.of_own HO1.out).below hb2))
  have hbw2 := hbw.trans (hb2.mono hbw.size)
  go_wp2_with (fail)
  go_must (refine HS2.out.mono ?_)
  rintro e w3 ⟨va, vb, rfl, oa, ob, hb3⟩
  rw [HSP.out] at oa ob
  simp only at oa ob
  obtain ⟨na, hnaE⟩ : ∃ na, (z :: ra).length = na := ⟨_, rfl⟩
  obtain ⟨nb, hnbE⟩ : ∃ nb, (y :: rb).length = nb := ⟨_, rfl⟩
  have hna9 : na ≤ 10000 := by rw [← hnaE]; simp; omega
  have hnb9 : nb ≤ 10000 := by rw [← hnbE]; simp; omega
  have hnb1 : ¬ nb = 0 := by rw [← hnbE]; simp
  have hnbB : ((nb : Int) == 0) = false := by simp; omega
  rw [hnaE] at oa
  rw [hnbE] at ob
  obtain ⟨Aa, ca, rfl, _⟩ := Sl.of_own oa
  obtain ⟨Ab, cb, rfl, _⟩ := Sl.of_own ob
  have hbw3 := hbw2.trans (hb3.mono hbw2.size)
  have hs3 := hbw3.size
  have hW3 := HH.out.below hbw3
  have HK3 := Lib.hid (WkK.of_below (p := p) (x := x) hbw3)
  have hC1 := Lib.hid (HL1.out w3 Aa na ca hna9 hW3 (Sl.of_own oa))
  have hsz2 := hbw2.size
  have OB := Lib.hid ob
  clear hW3 oa ob hnaE hnbE
  go_wp2_with (fail)
  go_must (refine hC1.out.mono ?_)
  rintro e w4 ⟨id1, x1, v13, rfl, hm1, hl1, hu1, own13, hns13, hW4, hK4⟩
  have ob4 := own_keeps OB.out hK4.keeps (fun k hk hs => by have := HH.out.lt k hs; have := (OB.out.lt k hk).1; omega)
  have hC2 := Lib.hid (HL2.out w4 Ab nb cb x1 _ _ hnb9 (by simp) hW4 (Sl.of_own ob4))
  have hxb := hK4.same
  have hs4 := hK4.keeps.size
  unfold OwnsC at own13
  rcases own13.2 with ⟨_, h0⟩ | ⟨g, cap, cur, rfl, hgb, hheap, hnc, hcm, hcs, hcx⟩
  · cases h0
  rw [hxb] at hC2
  go_wp2_with (fail)
  go_must (refine hC2.out.mono ?_)
  rintro e w5 ⟨id2, x2, v15, rfl, hm2, hl2, hu2, own15, hns15, hW5, hK5⟩
  unfold OwnsC at own15
  have hs5 := hK5.keeps.size
  have own135 := own_keeps own13 hK5.keeps hns13
  have hgS : ¬ x2.S p g := fun hs => by
    rcases hK5.sub g hs with h1 | h1
    · exact hns13 g rfl h1
    · have := (own13.lt g rfl).2; omega
  rcases own15.2 with ⟨_, h0⟩ | ⟨g5, cap5, cur5, rfl, hgb5, hheap5, hnc5, hcm5, hcs5, hcx5⟩
  · cases h0
  obtain ⟨u0, d0⟩ : ∃ u, w5.cell? ⟨g, 0, none⟩ = some u := by
    rcases own135.2 with ⟨e0, _⟩ | ⟨g', cap', cur', e0, _, hh, hn', _, hc', _⟩
    · cases e0
    · simp only [Value.slice.injEq, Option.some.injEq, Addr.mk.injEq, and_true, true_and] at e0
      obtain ⟨rfl, rfl⟩ := e0
      exact ⟨_, by rw [cell_of_row w5 g _ cur' _ (0, 0) hh]; exact Array.getElem?_eq_getElem (by simp at hn'; omega)⟩
  have f0 := own135.frozenAt 0
  obtain ⟨q13, _⟩ := own135.stored 0 (strV c0.key)
  have hglt := (own13.lt g rfl).2
  have hglo := (own13.lt g rfl).1
  have hg5 := (own15.lt g5 rfl).1
  have hgne : ∀ k, (Value.slice (some ⟨g5, 0, none⟩) 1 cap5).ownBlock = some k → k ≠ g := fun k hk e => by
    simp only [Value.ownBlock, Option.some.injEq] at hk
    omega
  have K5 : Keeps (fun k => k = g) w5 (w5.setCell ⟨g, 0, none⟩ (strV c0.key)) := (Keeps.refl (fun k => k = g) _).setCell (p := ⟨g, 0, none⟩) (fun _ => rfl) _
  have own155 := own_keeps own15 K5 hgne
  have hW6 := hW5.keeps K5 (fun k hk e => hgS (e ▸ hk))
  have hnews : ∀ j u, (childCs ⟨y.key, id2⟩)[j]? = some u → (w5.setCell ⟨g, 0, none⟩ (strV c0.key)).cell? ((⟨g5, 0, none⟩ : Addr).add j) = some u := by
    obtain ⟨_, _, e0, _, _, hcl⟩ := Sl.of_own own155
    cases e0
    obtain ⟨b', o', e1, _, hcl2⟩ := hcl (by simp)
    cases e1
    intro j u hu
    rw [addr_add]
    refine hcl2 j u ?_
    rw [← hu]
    rfl
  have q13' : (w5.setCell ⟨g, 0, none⟩ (strV c0.key)).ownsRow w3.heap.size 188 2 (.slice (some ⟨g, 0, none⟩) 1 cap) 1 (childrenCs [⟨c0.key, id1⟩]) := q13
  have hs6 := K5.size
  have hb6 : w3.heap.size ≤ (w5.setCell ⟨g, 0, none⟩ (strV c0.key)).heap.size := by omega
  have hsz : (w5.setCell ⟨g, 0, none⟩ (strV c0.key)).heap.size = w5.heap.size := by simp [World.setCell]
  have HK6 := Lib.hid (((HK3.out.trans hK4).trans hK5).fresh K5 (fun k hk => by rw [hk]; omega))
  have HW6 := Lib.hid hW6
  have HO6 := Lib.hid q13'
  have HN := Lib.hid hnews
  clear q13 q13' hnews hW6 hW5 hW4 own13 own15 own135 own155 hcx hcs hheap hcx5 hcs5 hheap5 K5 hC2 hC1 HP HSp HL1 HL2 hK4 hK5
  go_wp2_with (at_builtin; go_must (refine wpList_append_at rfl _ _ 103 rfl w3.heap.size 188 i0 _ 2 24 Tryz.underlying103 hi hz0 hz1 hz2 rfl (by decide) _ 1 (childrenCs [⟨c0.key, id1⟩]) rfl HO6.out ⟨g5, 0, none⟩ 1 cap5 (childCs ⟨y.key, id2⟩) rfl rfl HN.out (by simp [childCs, Value.oneCell']) (by unfold maxLen; omega) (by omega) hb6 ?_))
  intro v6 w6 own6 hg6 hw6
  have K6 : Keeps (fun k => (Value.slice (some ⟨g, 0, none⟩) 1 cap).ownBlock = some k) (w5.setCell ⟨g, 0, none⟩ (strV c0.key)) w6 := (Keeps.refl (fun k => (Value.slice (some ⟨g, 0, none⟩) 1 cap).ownBlock = some k) _).grown hg6 (fun k hk _ => hk)
  have hgS6 : ∀ k, (Value.slice (some ⟨g, 0, none⟩) 1 cap).ownBlock = some k → ¬ x2.S p k := fun k hk hs => by
    simp only [Value.ownBlock, Option.some.injEq] at hk
    exact hgS (hk ▸ hs)
  have hW6 := HW6.out.keeps K6 (fun k hk e => hgS6 k e hk)
  have hK6 := HK6.out.fresh K6 (fun k hk => by have := (HO6.out.lt k hk).1; omega)
  have HE : Hid (BrP2 p x most M cnt made dropped c0.key y.key La Lb w (.returned (.tuple #[v6, .int .i64 0])) w6) := by
    refine ⟨id1, id2, x2, v6, rfl, hm1, hl1, hu1, hm2, hl2, hu2, own_base own6 (by omega), fun k hk hs => ?_, by simpa using hW6, hK6⟩
    rcases hw6 k hk with h1 | h1
    · exact hgS6 k h1 hs
    · have := HW6.out.lt k hs; rw [hsz] at this; omega
  clear own6 hg6 hw6 K6 hW6 hK6
  go_wp2_with (fail)
  refine bodyPost_ret (v := .tuple #[v6, .int .i64 0]) (by simp [results, Tryz.results166, go_sem]) rfl ?_
  exact HE.out
end
end Go.Ev
