/-
  Buckets.
-/
import Derived.Test.YtoemhefcmibjpaaGreatDoorMEvInsert
import Derived.Test.YtoemhefcmibjpaaGreatDoorMGwBuck1
import Derived.Test.YtoemhefcmibjpaaGreatDoorMGwWalkLaw
import Derived.Test.YtoemhefcmibjpaaGreatDoorMGwPilePut
set_option linter.unusedVariables false
set_option linter.unusedSimpArgs false
set_option maxHeartbeats 4000000
set_option maxRecDepth 100000
set_option linter.unusedVariables false
set_option linter.unusedSimpArgs false
namespace Go.Ev
open Go.Proofs Go.RowKit
section
variable {p bb most rn : Nat} {S : Nat → Prop} {root : Int} {L : List Bk} {W W' : World}
def GetBP (L : List Bk) (name key : Bytes) (w : World) (e : Ending) (w' : World) : Prop :=
 ((∃ b v, getB name L = some b ∧ getP key b.t.ps = some v ∧ e = .returned (.tuple #[strV v, .int .i64 0])) ∨ (((getB name L).bind fun b => getP key b.t.ps) = none ∧ e = .returned (.tuple #[strV [], .int .i64 7]))) ∧ Below w.heap.size w w'
theorem getB_ok (name key : Bytes) (h : BkS p bb most S root rn L W) (hrn : rn ≤ 20000) (hn : ∀ b ∈ L, b.t.n ≤ 20000) (hk1 : 1 ≤ name.length) (hk2 : name.length ≤ 40) (hg1 : 1 ≤ key.length) (hg2 : key.length ≤ 40) :
  Calls Tryz.prog 11 #[ptrV bb, strV name, strV key] W (GetBP L name key W) := by
 have HT := Lib.hid (treeB_ok name h hrn hk1 hk2)
 have HH := Lib.hid h
 clear h
 go_enter Tryz.func11, Tryz.ntmps11
 go_wp2_with (fail)
 go_must (refine HT.out.mono ?_)
 rintro e w1 ⟨hq, hb1⟩
 rcases hq with ⟨b, hb, rfl⟩ | ⟨hno, rfl⟩
 ·have hbk := HH.out.below hb1
  obtain ⟨c, M, rids, cnt, h1, h2, h3, h4⟩ := hbk.ex
  have c0 : w1.cell? ⟨bb, 0, none⟩ = some (ptrV p) := hbk.blk.cell 0
  have hTb := h2.fam.each b.t (List.mem_cons_of_mem _ (List.mem_map_of_mem (getB_name hb).2))
  have hrb : Rising b.t.ps := by
   obtain ⟨⟨k, S0, t1, _⟩, _, _⟩ := hTb
   exact t1.tree.rising
  have HG := Lib.hid (treeGetL_ok b.t.root key b.t.ps w1 h1 (hTb.l (hn b (getB_name hb).2)) hg1 hg2)
  have HR := Lib.hid (And.intro hrb (And.intro hb hb1))
  clear hbk h1 h2 h3 h4 hTb hrb hb hb1
  go_wp2_with (fail)
  go_must (refine HG.out.mono ?_)
  intro e w2 hq
  obtain ⟨hq, hb2⟩ := getTP_get hq HR.out.1
  have HB : Hid (Below W.heap.size W w2) := HR.out.2.2.trans (hb2.mono HR.out.2.2.size)
  clear hb2
  rcases hq with ⟨v, hv, rfl⟩ | ⟨hv, rfl⟩
  ·have HV := Lib.hid hv
   clear hv
   go_wp2_with (fail)
   refine bodyPost_ret (v := .tuple #[strV v, .int .i64 0]) (by simp [results, Tryz.results11, go_sem]) rfl ?_
   exact ⟨.inl ⟨b, v, HR.out.2.1, HV.out, rfl⟩, HB.out⟩
  ·have HV : Hid (((getB name L).bind fun b => getP key b.t.ps) = none) := by
    show _ = _
    rw [HR.out.2.1]
    exact hv
   clear hv
   go_wp2_with (fail)
   refine bodyPost_ret (v := .tuple #[strV [], .int .i64 7]) (by simp [results, Tryz.results11, go_sem]) rfl ?_
   exact ⟨.inr ⟨HV.out, rfl⟩, HB.out⟩
 ·have HV : Hid (((getB name L).bind fun b => getP key b.t.ps) = none) := by
   show _ = _
   rw [hno]
   rfl
  have HB := Lib.hid hb1
  clear hno hb1
  go_wp2_with (fail)
  refine bodyPost_ret (v := .tuple #[strV [], .int .i64 7]) (by simp [results, Tryz.results11, go_sem]) rfl ?_
  exact ⟨.inr ⟨HV.out, rfl⟩, HB.out⟩
def GoneB (L : List Bk) (rn : Nat) (name : Bytes) (rn' : Nat) (L' : List Bk) : Prop := L' = delB name L ∧ rn' = rn
theorem dropB_ok (name : Bytes) (b : Bk) (h : BkS p bb most S root rn L W) (hb : getB name L = some b) (hR : Roomy most rn L) (hm : most ≤ 80000) (hl : b.t.ps.length ≤ 90000) (hk1 : 1 ≤ name.length) (hk2 : name.length ≤ 40) :
  Calls Tryz.prog 10 #[ptrV bb, strV name] W (ChgP p bb most S (.int .i64 0) (GoneB L rn name) W) := by
 have HM := Lib.hid (may_ok h.blk 0 (by omega))
 have HT := Lib.hid (treeB_ok name h hR.top hk1 hk2)
 have HH := Lib.hid (And.intro h (And.intro hR hb))
 clear h hb
 go_enter Tryz.func10, Tryz.ntmps10
 go_wp2_with (fail)
 go_must (refine HM.out.mono ?_)
 rintro e w0 ⟨rfl, rfl⟩
 go_wp2_with (fail)
 go_must (refine HT.out.mono ?_)
 rintro e w1 ⟨hq, hb1⟩
 obtain rfl : e = .returned (.tuple #[.int .i64 b.t.root, .int .i64 0]) := by
  rcases hq with ⟨b2, hb2, rfl⟩ | ⟨hno, _⟩
  ·rw [HH.out.2.2] at hb2
   cases hb2
   rfl
  ·rw [HH.out.2.2] at hno
   cases hno
 clear hq
 have hbk := HH.out.1.below hb1
 obtain ⟨c, M, rids, cnt, h1, h2, h3, h4⟩ := hbk.ex
 have hroom := h2.room HH.out.2.1
 have hfr := h2.front HH.out.2.2
 have hTb := hfr.each _ (List.mem_cons_self ..)
 have hbn := HH.out.2.1.each b (getB_name HH.out.2.2).2
 have hids := h1.few hTb.once hTb.there
 have c0 : w1.cell? ⟨bb, 0, none⟩ = some (ptrV p) := hbk.blk.cell 0
 have HD := Lib.hid (dropTree_ok b.t.root b.t.ps b.t.ids b.t.n w1 h1 hTb hbn (by omega) hl)
 have HA := Lib.hid (And.intro hbk (And.intro h1 (And.intro h2 (And.intro h3 (And.intro h4 (And.intro hfr hb1))))))
 clear hbk h1 h2 h3 h4 hb1 hfr hTb hids
 go_wp2_with (fail)
 go_must (refine HD.out.mono ?_)
 rintro e w2 ⟨rfl, c', M2, hp2, hM2, hK⟩
 obtain ⟨hbk, h1, h2, h3, h4, hfr, hb1⟩ := HA.out
 have hz1 := hb1.size
 have hz2 := hK.keeps.size
 have hbk2 := hbk.blk.keeps hK.keeps h4
 have hn2 : ¬ c'.S p bb := fun e => by
  rcases hK.sub bb e with e | e
  ·exact h4 e
  ·have := hbk.blk.lt; omega
 have hF2 := hfr.drop hM2
 have hT2 := hF2.each _ (List.mem_cons_self ..)
 have hrids := hp2.few hT2.once hT2.there
 simp only at hrids
 have hin : (getP name (topP L)).isSome = true := by rw [topP_get, HH.out.2.2]; rfl
 have HP := Lib.hid (treeDelG_ok root name (topP L) rids rn (hp2.below (Below.refl _ w2).drew) hT2 hk1 hk2 hin HH.out.2.1.top (by omega) (.inl (by omega)))
 have d0 : w2.cell? ⟨bb, 0, none⟩ = some (ptrV p) := hbk2.cell 0
 have d1 : w2.cell? ⟨bb, 1, none⟩ = some (.int .i64 root) := hbk2.cell 1
 have HS2 : Hid (∀ k, c'.S p k ∨ k = bb → S k ∨ W.heap.size ≤ k) := fun k e => by
  rcases e with e | e
  ·rcases hK.sub k e with e | e
   ·exact .inl ((h3 k).2 (.inl e))
   ·exact .inr (by omega)
  ·exact .inl ((h3 k).2 (.inr e))
 have HKK : Hid (Keeps S W w2) := (Keeps.of_below (S := S) hb1).trans hK.keeps fun i _ e => (h3 i).2 (.inl e)
 have HB2 := Lib.hid (And.intro hbk2 (And.intro hn2 (And.intro hF2 (Nat.le_trans hz1 hz2))))
 clear hbk h1 h2 h3 h4 hb1 hfr hbk2 hn2 hF2 hT2 hrids hin hK hp2 hM2 c0 hz1 hz2
 go_wp2_with (fail)
 refine wp_region_any (by kernel_rfl) ?_
 change wpAny _ _ _ _ _ _ _ (World.drew _)
 try simp only [Act.put, lT, l0, lS]
 refine tA 0 ?_; try simp only [Act.put, lT, l0, lS]
 refine tA 1 ?_; try simp only [Act.put, lT, l0, lS]
 refine tA 2 ?_; try simp only [Act.put, lT, l0, lS]
 refine tA 4 ?_; try simp only [Act.put, lT, l0, lS]
 refine tA 5 ?_; try simp only [Act.put, lT, l0, lS]
 refine tA 6 ?_; try simp only [Act.put, lT, l0, lS]
 refine tA 8 ?_; try simp only [Act.put, lT, l0, lS]
 try simp only [Act.put, lT, l0, lS]
 refine rA 3 (v := ?_) (hy := ?hy) ?_; case hy => (intro w hE; have q0 := hE.cell d0; go_simp; try with_reducible rfl)
 try simp only [Act.put, lT, l0, lS]
 try simp only [Act.put, lT, l0, lS]
 refine rA 7 (v := ?_) (hy := ?hy) ?_; case hy => (intro w hE; have q0 := hE.cell d1; go_simp; try with_reducible rfl)
 try simp only [Act.put, lT, l0, lS]
 refine rd 9 (by kernel_rfl) rfl (fun K hK => ?_); go_simp
 (go_must (refine HP.out.mono ?_); intro e w3 hput)
 obtain ⟨root', M3, c3, cnt3, ids3, rfl, q1, q2, q3, q4, q5, hK⟩ := hput
 obtain ⟨hbk2, hn2, hF2, hzz⟩ := HB2.out
 have hbk2d : Blk w2.drew bb 49 #[ptrV p, .int .i64 root, .int .i64 0] := Blk.below' hbk2 (Below.refl _ w2).drew
 have hbk3 := hbk2d.keeps hK.keeps hn2
 have n1 : w3.cell? ⟨bb, 1, none⟩ = some (.int .i64 root) := hbk3.cell 1
 have f1 := hbk3.frozen 1
 have HE : Hid (ChgP p bb most S (.int .i64 0) (GoneB L rn name) W (.returned (.int .i64 0)) (w3.setCell ⟨bb, 1, none⟩ (.int .i64 root'))) := by
  have hz3 : w2.heap.size ≤ w3.heap.size := hK.keeps.size
  have hn3 : ¬ c3.S p bb := fun e => by
   rcases hK.sub bb e with e | e
   ·exact hn2 e
   ·have e2 : w2.heap.size ≤ bb := e
    have := hbk2.lt
    omega
  have KF := (Keeps.refl (fun k => k = bb) w3).setCell (p := ⟨bb, 1, none⟩) (fun _ => rfl) (.int .i64 root')
  have hF3 := hF2.change (t' := ⟨root', delP name (topP L), ids3, rn⟩) q1 q3.1 q4 q5
  rw [← topP_del] at hF3
  refine ⟨fun k => c3.S p k ∨ k = bb, root', rn, delB name L, rfl, ⟨rfl, rfl⟩, ⟨⟨c3, M3, ids3, cnt3, q2.keeps KF (fun k hk e => hn3 (e ▸ hk)), ⟨hF3, fun x hx => ?_⟩, fun k => Iff.rfl, hn3⟩, hbk3.set 1 _⟩, ?_, fun k e => ?_⟩
  ·obtain ⟨c, M, rids, cnt, _, h2, _⟩ := HH.out.1.ex
   exact h2.num x (delB_mem hx)
  ·have hin : ∀ i, i < W.heap.size → (c'.S p i ∨ i = bb) → S i := fun i hi e => (HS2.out i e).resolve_right (by omega)
   refine ((HKK.out.trans (Keeps.of_below (S := fun _ => False) (Below.refl _ w2).drew) fun _ _ e => e.elim).trans hK.keeps fun i hi e => hin i hi (.inl e)).trans KF fun i hi e => hin i hi (.inr e)
  ·rcases e with e | e
   ·rcases hK.sub k e with e | e
    ·exact HS2.out k (.inl e)
    ·have e2 : w2.heap.size ≤ k := e
     exact .inr (by omega)
   ·exact HS2.out k (.inr e)
 clear q1 q2 q3 q4 q5 hK hbk2 hn2 hF2 hbk2d hbk3
 go_simp
 refine hK _ _ ?_
 clear hK K
 refine rd 10 (by kernel_rfl) rfl (fun K hK => ?_); go_simp; refine hK _ _ ?_; clear hK K
 try simp only [Act.put, lT, l0, lS]
 refine tA 11 ?_; try simp only [Act.put, lT, l0, lS]
 refine tA 12 ?_; try simp only [Act.put, lT, l0, lS]
 refine rd 13 (by kernel_rfl) rfl (fun K hK => ?_); go_simp; refine hK _ _ ?_; clear hK K
 refine rd 14 (by kernel_rfl) rfl (fun K hK => ?_); go_simp; refine hK _ _ ?_; clear hK K
 refine wpAny_done (by kernel_rfl) ?_ _
 go_wp2_with (fail)
 go_ret
 exact HE.out
theorem drop_none (name : Bytes) (h : BkS p bb most S root rn L W) (hno : getB name L = none) (hrn : rn ≤ 20000) (hk1 : 1 ≤ name.length) (hk2 : name.length ≤ 40) :
  Calls Tryz.prog 10 #[ptrV bb, strV name] W fun e w' => e = .returned (.int .i64 7) ∧ Below W.heap.size W w' := by
 have HM := Lib.hid (may_ok h.blk 0 (by omega))
 have HT := Lib.hid (treeB_ok name h hrn hk1 hk2)
 have HN := Lib.hid hno
 clear h hno
 go_enter Tryz.func10, Tryz.ntmps10
 go_wp2_with (fail)
 go_must (refine HM.out.mono ?_)
 rintro e w0 ⟨rfl, rfl⟩
 go_wp2_with (fail)
 go_must (refine HT.out.mono ?_)
 rintro e w1 ⟨hq, hb1⟩
 obtain rfl : e = .returned (.tuple #[.int .i64 0, .int .i64 7]) := by
  rcases hq with ⟨b2, hb2, _⟩ | ⟨_, rfl⟩
  ·rw [HN.out] at hb2
   cases hb2
  ·rfl
 have HB := Lib.hid hb1
 clear hq hb1
 go_wp2_with (fail)
 go_ret
 exact ⟨rfl, HB.out⟩
end
end Go.Ev
set_option linter.unusedVariables false
set_option linter.unusedSimpArgs false
namespace Go.Ev
open Go.Proofs Go.RowKit
def textsV (l : List Bytes) : List Value := l.map strV
theorem open_ok (p : Nat) (root : Int) (W : World) :
  Calls Tryz.prog 6 #[ptrV p, .int .i64 root] W fun e w' => e = .returned (ptrV W.heap.size) ∧ w' = W.alloc (.cells #[ptrV p, .int .i64 root, .int .i64 0] 49) := by
 go_enter Tryz.func6, Tryz.ntmps6
 go_wp2_with (fail)
 go_ret
 exact ⟨rfl, rfl⟩
section
variable {p bb most rn : Nat} {S : Nat → Prop} {root : Int} {L : List Bk} {W W' : World}
def NamesP (L : List Bk) (w : World) (e : Ending) (w' : World) : Prop :=
 ∃ v, e = .returned (.tuple #[v, .int .i64 0]) ∧ w'.ownsRow w.heap.size 9 1 v L.length (textsV (L.map (·.name))) ∧ Below w.heap.size w w'
theorem names_ok (h : BkS p bb most S root rn L W) (hrn : rn ≤ 20000) (hl : L.length ≤ 100000) :
  Calls Tryz.prog 9 #[ptrV bb] W (NamesP L W) := by
 obtain ⟨i0, hi0, hz0, hz1, hz2⟩ := info_parts infoStr
 have HM := Lib.hid (may_ok h.blk 1 (by omega))
 obtain ⟨c, M, rids, cnt, h1, h2, h3, h4⟩ := h.ex
 have c0 : W.cell? ⟨bb, 0, none⟩ = some (ptrV p) := h.blk.cell 0
 have c1 : W.cell? ⟨bb, 1, none⟩ = some (.int .i64 root) := h.blk.cell 1
 have hT := (h2.fam.each _ (List.mem_cons_self ..)).l hrn
 have hG := range_any root [] [] 0 (topP L) W.drew (h1.below (Below.refl _ _).drew) hT (by unfold topP; rw [List.length_map]; exact hl)
 rw [rangeP_all] at hG
 have HG := Lib.hid hG
 clear h h1 h2 h3 h4 hT hG
 go_enter Tryz.func9, Tryz.ntmps9
 go_wp2_with (fail)
 go_must (refine HM.out.mono ?_)
 rintro e w1 ⟨rfl, rfl⟩
 go_wp2_with (fail)
 refine wp_region_any (by kernel_rfl) ?_
 change wpAny _ _ _ _ _ _ _ (World.drew _)
 try simp only [Act.put, lT, l0, lS]
 refine tA 0 ?_; try simp only [Act.put, lT, l0, lS]
 refine tA 1 ?_; try simp only [Act.put, lT, l0, lS]
 refine tA 2 ?_; try simp only [Act.put, lT, l0, lS]
 refine tA 4 ?_; try simp only [Act.put, lT, l0, lS]
 refine tA 5 ?_; try simp only [Act.put, lT, l0, lS]
 refine tA 6 ?_; try simp only [Act.put, lT, l0, lS]
 try simp only [Act.put, lT, l0, lS]
 refine rA 3 (v := ?_) (hy := ?hy) ?_; case hy => (intro w hE; have q0 := hE.cell c0; go_simp; try with_reducible rfl)
 try simp only [Act.put, lT, l0, lS]
 try simp only [Act.put, lT, l0, lS]
 refine rA 7 (v := ?_) (hy := ?hy) ?_; case hy => (intro w hE; have q0 := hE.cell c1; go_simp; try with_reducible rfl)
 try simp only [Act.put, lT, l0, lS]
 refine rd 8 (by kernel_rfl) rfl (fun K hK => ?_); go_simp
 (go_must (refine HG.out.mono ?_); rintro e w2 ⟨v, rfl, hcl, hb2⟩)
 obtain ⟨A, rfl, hA0, hsl⟩ := hcl.sl
 have hlen : (topP L).length = L.length := by unfold topP; rw [List.length_map]
 have HSl := Lib.hid hsl
 have HB2 : Hid (Below W.heap.size W w2) := ((Below.refl _ W).drew).trans hb2
 have HLen := Lib.hid hlen
 obtain ⟨n, hn⟩ : ∃ n, (topP L).length = n := ⟨_, rfl⟩
 rw [hn] at HSl ⊢
 have HN := Lib.hid hn
 have hn0 : n ≤ 100000 := by omega
 clear hcl hsl hlen hb2 hn hA0
 go_simp
 refine hK _ _ ?_
 clear hK K
 refine rd 9 (by kernel_rfl) rfl (fun K hK => ?_); go_simp; refine hK _ _ ?_; clear hK K
 try simp only [Act.put, lT, l0, lS]
 refine tA 10 ?_; try simp only [Act.put, lT, l0, lS]
 refine tA 11 ?_; try simp only [Act.put, lT, l0, lS]
 refine rd 12 (by kernel_rfl) rfl (fun K hK => ?_); go_simp; refine hK _ _ ?_; clear hK K
 refine rd 13 (by kernel_rfl) rfl (fun K hK => ?_); go_simp; refine hK _ _ ?_; clear hK K
 refine wpAny_done (by kernel_rfl) ?_ _
 go_wp2_with (fail)
 go_loopg [7, 29] n (fun gk s7 s29 wr => ∃ i : Nat, s29 = .int .i64 (i : Int) ∧ i + gk = n ∧ Hid (wr.ownsRow w2.heap.size 9 1 s7 i (textsV ((L.take i).map (·.name)))) ∧ Hid (Below w2.heap.size w2 wr))
 case atStart => exact ⟨0, rfl, by omega, by show World.ownsRow _ _ _ _ _ _ _; simpa [textsV] using World.ownsRow_nil _ _ _ _, Below.refl _ _⟩
 case round =>
  obtain ⟨i, rfl, hi, hr, hbw⟩ := hrel
  have hrow := hr.out
  obtain ⟨Ao, co, rfl, _⟩ := Sl.of_own hrow
  by_cases h1 : i < n
  ·have h1' : (i : Int) < (n : Int) := by omega
   have hi0' : (0 : Int) ≤ (i : Int) := by omega
   have hw1 : IntKind.i64.wrap ((i : Int) + 1) = (i : Int) + 1 := IntWalk.i64_in _ (by omega)
   obtain ⟨_, _, e0, _, _, hcl⟩ := HSl.out.below hbw.out
   cases e0
   obtain ⟨blk, off, rfl, hbl, hcell⟩ := hcl (by omega)
   have hit : i < (topP L).length := by have := HN.out; omega
   have hiL : i < L.length := by have := HLen.out; omega
   obtain ⟨p1, p2⟩ := pairsCs_at (topP L) i hit
   have hnm : (topP L)[i].1 = L[i].name := by simp [topP]
   obtain ⟨u, hu⟩ : ∃ u, (topP L)[i] = u := ⟨_, rfl⟩
   rw [hu] at p1 p2 hnm
   have x1 : wr.cell? ⟨blk, off + i * 2, none⟩ = some (strV u.1) := hcell _ _ p1
   have x2 : wr.cell? ⟨blk, off + i * 2 + 1, none⟩ = some (strV u.2) := hcell _ _ p2
   obtain ⟨uk, uv⟩ := u
   simp only at x1 x2 hnm
   have htk : L.take (i + 1) = L.take i ++ [L[i]] := (List.take_append_getElem hiL).symm
   have hst : textsV ((L.take (i + 1)).map (·.name)) = textsV ((L.take i).map (·.name)) ++ [strV uk] := by
    rw [htk, List.map_append, textsV, textsV, List.map_append, hnm]
    rfl
   have hbx : Below wr.heap.size wr ((wr.alloc (.cells #[strV uk, strV uv] 58)).alloc (.cells #[strV uk] 9)) := ((Below.refl _ _).alloc (Nat.le_refl _) _).alloc (by simp) _
   obtain ⟨tv, htv⟩ : ∃ tv, textsV ((L.take i).map (·.name)) = tv := ⟨_, rfl⟩
   rw [htv] at hrow hst
   have HRow := Lib.hid (own_below hrow hbx)
   have HBx := Lib.hid hbx
   have HST := Lib.hid hst
   clear hcell hcl p1 p2 hu htk hst hrow hbx hr hnm htv
   go_wp2_with (at_builtin; go_must (refine wpList_append_at rfl _ _ 22 rfl w2.heap.size 9 i0 _ 1 16 Tryz.underlying22 hi0 hz0 hz1 hz2 rfl (by decide) _ i tv rfl HRow.out ⟨wr.heap.size + 1, 0, none⟩ 1 1 [strV uk] rfl rfl (row_new1 _ _ _ _ (by simp)) (by simp [Value.oneCell']) (by unfold maxLen; omega) (by omega) (Nat.le_trans hbw.out.size (by simp; omega)) ?_))
   intro v4 w4 own4 hg4 hw4
   have hb4 : Below w2.heap.size w2 w4 := (hbw.out.trans (HBx.out.mono hbw.out.size)).grown hg4 (Nat.le_trans hbw.out.size HBx.out.size) (fun j hj => (HRow.out.lt j hj).1)
   rw [← HST.out] at own4
   obtain ⟨A4, c4, rfl, _⟩ := Sl.of_own own4
   have HO4 := Lib.hid own4
   have HB4 := Lib.hid hb4
   clear own4 hg4 hw4 hb4
   go_wp2_with (fail)
   go_roundg (gk - 1)
   case measure => omega
   case rel => exact ⟨i + 1, by simp, by omega, HO4.out, HB4.out⟩
  ·have h1' : ¬ (i : Int) < (n : Int) := by omega
   have hii : i = L.length := by have := HN.out; have := HLen.out; omega
   have HE : Hid (NamesP L W (.returned (.tuple #[.slice Ao i co, .int .i64 0])) wr) := by
    refine ⟨_, rfl, ?_, HB2.out.trans (hbw.out.mono HB2.out.size)⟩
    rw [hii, List.take_length] at hrow
    rw [hii]
    exact own_base hrow HB2.out.size
   clear hrow hr hii
   go_wp2_with (fail)
   refine bodyPost_ret (v := .tuple #[.slice Ao i co, .int .i64 0]) (by simp [results, Tryz.results9, go_sem]) rfl ?_
   exact HE.out
inductive MadesB (L : List Bk) (rn : Nat) : List Bytes → Nat → List Bk → Prop
 | nil : MadesB L rn [] rn L
 | snoc {ns : List Bytes} {rn1 rn2 : Nat} {L1 L2 : List Bk} {name : Bytes} : MadesB L rn ns rn1 L1 → MadeB L1 rn1 name rn2 L2 → MadesB L rn (ns ++ [name]) rn2 L2
theorem makeB_ok (A : Option Addr) (n cc : Nat) (names : List Bytes) (h : BkS p bb most S root rn L W) (hv : Sl W 1 (.slice A n cc) n (textsV names)) (hnl : names.length ≤ 100000) (hm : most ≤ 80000) (hvS : ∀ g o, A = some ⟨g, o, none⟩ → ¬ S g)
  (hg : ∀ nm ∈ names, 1 ≤ nm.length ∧ nm.length ≤ 40) (hR : ∀ k rn' L', MadesB L rn (names.take k) rn' L' → Roomy most rn' L') :
  Calls Tryz.prog 7 #[ptrV bb, .slice A n cc] W (ChgP p bb most S (.int .i64 0) (MadesB L rn names) W) := by
 have hnn : names.length = n := by
  obtain ⟨_, _, e, _, hc, _⟩ := hv
  cases e
  unfold textsV at hc
  rw [List.length_map] at hc
  omega
 have HM := Lib.hid (may_ok h.blk 0 (by omega))
 have HH := Lib.hid (And.intro h (And.intro hv (And.intro hvS (And.intro hg hR))))
 clear h hv hvS hg hR
 go_enter Tryz.func7, Tryz.ntmps7
 go_wp2_with (fail)
 go_must (refine HM.out.mono ?_)
 rintro e w1 ⟨rfl, rfl⟩
 go_wp2_with (fail)
 go_loopg [16] n (fun gk s16 wr => ∃ (i : Nat) (S1 : Nat → Prop) (root1 : Int) (rn1 : Nat) (L1 : List Bk), s16 = .int .i64 (i : Int) ∧ i + gk = n ∧ Hid (MadesB L rn (names.take i) rn1 L1) ∧ Hid (BkS p bb most S1 root1 rn1 L1 wr) ∧ Hid (Keeps S W wr) ∧ Hid (∀ k, S1 k → S k ∨ W.heap.size ≤ k))
 case atStart => exact ⟨0, S, root, rn, L, rfl, by omega, by show MadesB _ _ _ _ _; rw [List.take_zero]; exact .nil, HH.out.1, Keeps.refl _ _, fun k hk => .inl hk⟩
 case round =>
  obtain ⟨i, S1, root1, rn1, L1, rfl, hi, hMd, hB, hK, hS⟩ := hrel
  by_cases h1 : i < n
  ·have h1' : (i : Int) < (n : Int) := by omega
   have hi0' : (0 : Int) ≤ (i : Int) := by omega
   have hw1 : IntKind.i64.wrap ((i : Int) + 1) = (i : Int) + 1 := IntWalk.i64_in _ (by omega)
   obtain ⟨_, hv, hvS, hg, hR⟩ := HH.out
   have hvk : Sl wr 1 (.slice A n cc) n (textsV names) := by
    obtain ⟨A0, c0, e, q1, q2, q3⟩ := hv
    cases e
    refine ⟨A, cc, rfl, q1, q2, fun hp => ?_⟩
    obtain ⟨b', o', e1, e2, e3⟩ := q3 hp
    exact ⟨b', o', e1, Nat.lt_of_lt_of_le e2 hK.out.size, fun j u hu => (hK.out.cell (p := ⟨b', o' + j, none⟩) e2 (hvS b' o' e1)).trans (e3 j u hu)⟩
   obtain ⟨_, _, e0, _, _, hcl⟩ := hvk
   cases e0
   obtain ⟨blk, off, rfl, hbl, hcell⟩ := hcl (by omega)
   have hiN : i < names.length := by omega
   obtain ⟨nm, hnm⟩ : ∃ nm, names[i] = nm := ⟨_, rfl⟩
   have x1 : wr.cell? ⟨blk, off + i, none⟩ = some (strV nm) := hcell i _ (by unfold textsV; rw [List.getElem?_map, List.getElem?_eq_getElem hiN, hnm]; rfl)
   obtain ⟨g1, g2⟩ := hg nm (by rw [← hnm]; exact List.getElem_mem ..)
   have HO := Lib.hid (one_ok nm hB.out (hR i _ _ hMd.out) hm g1 g2)
   have htk : names.take (i + 1) = names.take i ++ [nm] := by rw [(List.take_append_getElem hiN).symm, hnm]
   have HT := Lib.hid htk
   clear hv hvS hg hR hcl hcell hnm htk g1 g2
   go_wp2_with (fail)
   go_must (refine HO.out.mono ?_)
   rintro e w3 ⟨S', root', rn', L', rfl, hQ, hbk, hk, hs⟩
   have HE : Hid (MadesB L rn (names.take (i + 1)) rn' L') := by
    show MadesB _ _ _ _ _
    rw [HT.out]
    exact .snoc hMd.out hQ
   have HB := Lib.hid hbk
   have HKK : Hid (Keeps S W w3) := hK.out.trans hk fun j hj e => (hS.out j e).resolve_right (by omega)
   have HS3 : Hid (∀ k, S' k → S k ∨ W.heap.size ≤ k) := fun k e => by
    rcases hs k e with e | e
    ·exact hS.out k e
    ·exact .inr (Nat.le_trans hK.out.size e)
   clear hQ hbk hk hs
   go_wp2_with (fail)
   go_roundg (gk - 1)
   case measure => omega
   case rel => exact ⟨i + 1, S', root', rn', L', by simp, by omega, HE.out, HB.out, HKK.out, HS3.out⟩
  ·have h1' : ¬ (i : Int) < (n : Int) := by omega
   have hii : i = names.length := by omega
   have HE : Hid (ChgP p bb most S (.int .i64 0) (MadesB L rn names) W (.returned (.int .i64 0)) wr) := by
    have h1 := hMd.out
    rw [hii, List.take_length] at h1
    exact ⟨S1, root1, rn1, L1, rfl, h1, hB.out, hK.out, hS.out⟩
   clear hii
   go_wp2_with (fail)
   go_ret
   exact HE.out
end
end Go.Ev
