/-
  Texts of this claim.
-/
import Derived.Test.YtjdimpnonjjnaaaGreatDoorMGwSess0
set_option linter.unusedVariables false
set_option linter.unusedSimpArgs false
namespace Go.Ev
open Go.Proofs Go.RowKit
def ListP (l : List (Nat × Ses)) (w : World) (e : Ending) (w' : World) : Prop :=
 ∃ v, e = .returned (.tuple #[v, .int .i64 0]) ∧ w'.ownsRow w.heap.size 3 1 v l.length (intsV (l.map fun x => (x.1 : Int))) ∧ Below w.heap.size w w'
theorem ssP_at {n : Nat} {l : List (Nat × Ses)} {i : Nat} (h : i < l.length) : (ssP n l)[i]? = some (dig 8 l[i].1, layS l[i].2) := by
 unfold ssP sesP
 rw [List.getElem?_append_left (by simpa using h), List.getElem?_map, List.getElem?_eq_getElem h]
 rfl
theorem ssP_end {n : Nat} {l : List (Nat × Ses)} {i : Nat} (h : ¬ i < l.length) (hi : i < (ssP n l).length) : (ssP n l)[i]? = some (nextK, varsB [(n : Int)]) ∧ i = l.length ∧ (ssP n l).length = l.length + 1 := by
 unfold ssP sesP at hi ⊢
 by_cases h0 : n = 0
 ·rw [if_pos h0, List.append_nil, List.length_map] at hi
  exact absurd hi h
 ·rw [if_neg h0, List.length_append, List.length_map, List.length_cons, List.length_nil] at hi
  have e : i = l.length := by omega
  subst e
  rw [if_neg h0]
  simp
section
variable {D : DB} {F : Nat → Prop} {bb q n : Nat} {l : List (Nat × Ses)} {W W' : World}
set_option maxHeartbeats 4000000 in
set_option maxRecDepth 100000 in
theorem Sn.list (h : Sn D F bb q n l W) (hq : q ≤ 20000) : Calls Tryz.prog 10 #[ptrV bb] W (ListP l W) := by
 obtain ⟨i0, hi0, hz0, hz1, hz2⟩ := info_parts infoInt
 have hlen0 : (ssP n l).length ≤ 41 := Nat.le_trans (ssP_len n l) (by have := h.few; omega)
 have hG : Calls Tryz.prog 22 #[ptrV bb, strV sessK, strV [], strV [], .int .i64 0] W (RangePost W.heap.size (ssP n l) W) := by
  obtain ⟨p, rn, td, ts, h1, h2, h3, h4, h5, h6, h7⟩ := h.ex
  obtain ⟨S, root, g1, g2⟩ := h1.ex
  have := rangeB_ok sessK [] [] 0 ⟨sessK, ts⟩ g1 (getB_sess td ts) (by omega) (by show ts.n ≤ _; omega) (by show ts.ps.length ≤ _; rw [h3]; omega) (by decide) (by decide)
  rw [rangeP_all] at this
  rw [← h3]
  exact this
 obtain ⟨ids, hids⟩ := nmz ((l.map fun x => (x.1 : Int)))
 have hidl : ids.length = l.length := by rw [← hids, List.length_map]
 have HIds := Hdz (Anz hids hidl)
 clear hids hidl
 have HG := Hdz hG
 have HOk := Hdz h.ok
 have hfew := h.few
 clear h hG
 go_enter Tryz.func10, Tryz.ntmps10
 go_wp2_with (fail)
 go_must (refine HG.out.mono ?_)
 rintro e w2 ⟨v, rfl, hcl, hb2⟩
 obtain ⟨A, rfl, hA0, hsl⟩ := hcl.sl
 have HSl := Hdz hsl
 have HB2 := Hdz hb2
 obtain ⟨m, hm⟩ := nmz ((ssP n l).length)
 rw [hm] at HSl hlen0 ⊢
 have HM := Hdz hm
 clear hcl hsl hb2 hm hA0
 go_wp2_with (fail)
 go_loopg [6, 21] m (fun gk s6 s21 wr => ∃ i : Nat, s21 = .int .i64 (i : Int) ∧ i + gk = m ∧ Hid (wr.ownsRow w2.heap.size 3 1 s6 (min i l.length) (intsV (ids.take i))) ∧ Hid (Below w2.heap.size w2 wr))
 case atStart => exact ⟨0, rfl, by omega, by show World.ownsRow _ _ _ _ _ _ _; simpa [intsV] using World.ownsRow_nil _ _ _ _, Below.refl _ _⟩
 case round =>
  obtain ⟨i, rfl, hi, hr, hbw⟩ := hrel
  have hrow := hr.out
  obtain ⟨Ao, co, rfl, _⟩ := Sl.of_own hrow
  by_cases h1 : i < m
  ·have h1' : (i : Int) < (m : Int) := by omega
   have hi0' : (0 : Int) ≤ (i : Int) := by omega
   have hw1 : IntKind.i64.wrap ((i : Int) + 1) = (i : Int) + 1 := IntWalk.i64_in _ (by omega)
   obtain ⟨_, _, e0, _, _, hcl⟩ := HSl.out.below hbw.out
   cases e0
   obtain ⟨blk, off, rfl, hbl, hcell⟩ := hcl (by omega)
   have hit : i < (ssP n l).length := by have := HM.out; omega
   obtain ⟨p1, p2⟩ := pairsCs_at (ssP n l) i hit
   obtain ⟨u, hu⟩ := nmz ((ssP n l)[i])
   rw [hu] at p1 p2
   have hu2 : (ssP n l)[i]? = some u := by rw [List.getElem?_eq_getElem hit, hu]
   have x1 : wr.cell? ⟨blk, off + i * 2, none⟩ = some (strV u.1) := hcell _ _ p1
   have x2 : wr.cell? ⟨blk, off + i * 2 + 1, none⟩ = some (strV u.2) := hcell _ _ p2
   obtain ⟨uk, uv⟩ := u
   simp only at x1 x2
   clear hcell hcl p1 p2 hu hit
   by_cases hil : i < l.length
   ·have hmin : min i l.length = i := by omega
    rw [hmin] at hrow
    rw [ssP_at hil] at hu2
    simp only [Option.some.injEq, Prod.mk.injEq] at hu2
    obtain ⟨rfl, _⟩ := hu2
    have hid := HOk.out.1 l[i] (List.getElem_mem hil)
    have hn8 := HOk.out.2.2
    obtain ⟨id, hide⟩ := nmz (l[i].1)
    rw [hide] at x1 hid
    have hii : i < ids.length := by have := HIds.out.2; omega
    have hst : intsV (ids.take (i + 1)) = intsV (ids.take i) ++ [.int .i64 (id : Int)] := by
     have e1 : ids[i] = (id : Int) := by
      have h2 : ids[i]? = some (id : Int) := by rw [← HIds.out.1, List.getElem?_map, List.getElem?_eq_getElem hil]; simp [hide]
      rw [List.getElem?_eq_getElem hii] at h2
      simpa using h2
     rw [(List.take_append_getElem hii).symm, intsV, intsV, List.map_append, e1]
     rfl
    have HNu := Hdz (fun W => number_ok (dig 8 id) W (dig_len 8 id) (fun c hc => dig_mem hc))
    have hval : valD (dig 8 id) = id := valD_dig (by omega)
    rw [hval] at HNu
    have hpos : decide (0 < id) = true := by simp; omega
    rw [hpos] at HNu
    obtain ⟨dk, hdk⟩ := nmz (dig 8 id)
    have hne : dk ≠ nextK := by rw [← hdk]; exact lessB_ne (dig_next id)
    have hne1 : (dk == ([110, 101, 120, 116] : Bytes)) = false := beq_eq_false_iff_ne.2 hne
    rw [hdk] at x1 HNu
    have HST := Hdz hst
    have HRow := Hdz hrow
    clear hst hrow hr hval hpos hdk hne hide hii
    have HB2r := Hdz hbw.out
    go_wp2_with (fail)
    go_must (refine (HNu.out _).mono ?_)
    rintro e w3 ⟨rfl, hb3⟩
    have HB3 : Hid (Below wr.heap.size wr w3) := ((Below.refl _ wr).alloc (Nat.le_refl _) _).trans (hb3.mono (by simp))
    clear hb3
    go_wp2_with (at_builtin; go_must (refine wpList_append_at rfl _ _ 29 rfl w2.heap.size 3 i0 _ 1 8 Tryz.underlying29 hi0 hz0 hz1 hz2 rfl (by decide) _ i _ rfl (own_below (own_below HRow.out HB3.out) ((Below.refl _ w3).alloc (Nat.le_refl _) (.cells #[.int .i64 (id : Int)] 3))) ⟨w3.heap.size, 0, none⟩ 1 1 [.int .i64 (id : Int)] rfl rfl (row_new1 _ _ _ _ (by simp)) (by simp [Value.oneCell']) (by unfold maxLen; omega) (by omega) (by have := HB2r.out.size; have := HB3.out.size; simp; omega) ?_))
    intro v4 w4 own4 hg4 hw4
    have hbx : Below w2.heap.size w2 (w3.alloc (.cells #[.int .i64 (id : Int)] 3)) := (HB2r.out.trans (HB3.out.mono HB2r.out.size)).alloc (Nat.le_trans HB2r.out.size HB3.out.size) _
    have hb4 : Below w2.heap.size w2 w4 := hbx.grown hg4 hbx.size (fun j hj => (HRow.out.lt j hj).1)
    rw [← HST.out] at own4
    have hmin2 : min (i + 1) l.length = i + 1 := by omega
    have HM2 := Hdz hmin2
    obtain ⟨A4, c4, rfl, _⟩ := Sl.of_own own4
    have HO4 := Hdz own4
    have HB4 := Hdz hb4
    clear own4 hg4 hw4 hb4 hbx hmin2
    go_wp2_with (fail)
    go_roundg (gk - 1)
    case measure => omega
    case rel => exact ⟨i + 1, by simp, by omega, by rw [HM2.out]; exact HO4.out, HB4.out⟩
   ·have hu3 := hu2
    have hit : i < (ssP n l).length := by have := HM.out; omega
    obtain ⟨q1, q2, q3⟩ := ssP_end hil hit
    rw [q1] at hu2
    simp only [Option.some.injEq, Prod.mk.injEq] at hu2
    obtain ⟨rfl, rfl⟩ := hu2
    have hmin : min (i + 1) l.length = min i l.length := by omega
    have htk : ids.take (i + 1) = ids.take i := by rw [List.take_of_length_le (by have := HIds.out.2; omega), List.take_of_length_le (by have := HIds.out.2; omega)]
    have HE := Hdz (Anz hmin htk)
    have hb3 : Below w2.heap.size w2 (wr.alloc (.cells #[strV nextK, strV (varsB [(n : Int)])] 64)) := hbw.out.alloc hbw.out.size _
    have HB3 := Hdz hb3
    have hrow3 := own_below hrow ((Below.refl wr.heap.size wr).alloc (Nat.le_refl _) (.cells #[strV nextK, strV (varsB [(n : Int)])] 64))
    have HR3 := Hdz hrow3
    obtain ⟨nk, hnk⟩ := nmz (nextK)
    obtain ⟨nv, hnv⟩ := nmz (varsB [(n : Int)])
    rw [hnk] at HB3 HR3 x1
    rw [hnv] at HB3 HR3 x2
    have hnk2 : nk = ([110, 101, 120, 116] : Bytes) := hnk.symm
    have hnk3 : (nk == ([110, 101, 120, 116] : Bytes)) = true := by rw [hnk2]; rfl
    clear hu3 q1 q2 q3 hit hmin htk hrow hb3 hrow3 hnk hnv hnk2 hr hbw
    go_wp2_with (fail)
    go_roundg (gk - 1)
    case measure => omega
    case rel => exact ⟨i + 1, by simp, by omega, by rw [HE.out.1, HE.out.2]; exact HR3.out, HB3.out⟩
  ·have h1' : ¬ (i : Int) < (m : Int) := by omega
   have hlm : l.length ≤ i := by
    have := HM.out
    have h2 : l.length ≤ (ssP n l).length := by unfold ssP sesP; rw [List.length_append, List.length_map]; omega
    omega
   rw [Nat.min_eq_right hlm, List.take_of_length_le (by have := HIds.out.2; omega)] at hrow
   have HE : Hid (ListP l W (.returned (.tuple #[.slice Ao (min i l.length) co, .int .i64 0])) wr) := by
    rw [Nat.min_eq_right hlm]
    exact ⟨_, rfl, by rw [HIds.out.1]; exact own_base hrow HB2.out.size, HB2.out.trans (hbw.out.mono HB2.out.size)⟩
   clear hrow hr hlm hbw
   go_wp2_with (fail)
   refine bodyPost_ret (v := .tuple #[.slice Ao (min i l.length) co, .int .i64 0]) (by simp [results, Tryz.results10, go_sem]) rfl ?_
   exact HE.out
end
theorem ndP_le {k : Nat} {ps : List Pair} (h : ps.length ≤ 41) (hv : sumV ps ≤ 90000) : ndP k ps ≤ 270000 := by
 have h4 : min k 17 * ps.length ≤ 17 * 41 := Nat.mul_le_mul (Nat.min_le_right _ _) h
 have hw := ndP_W k ps
 unfold ndW at hw
 split at hw
 ·omega
 ·omega
theorem ndN_mono {n m : Nat} (ps : List Pair) (h : n ≤ m) : ndN n ps ≤ ndN m ps := by
 have : 9776 * n / 2924 ≤ 9776 * m / 2924 := Nat.div_le_div_right (Nat.mul_le_mul_left _ h)
 unfold ndN
 omega
theorem ssP_sum {n : Nat} (hn : n ≤ 99999999) : ∀ {l : List (Nat × Ses)}, (∀ x ∈ l, SesGood x.2 ∧ x.2.val.length ≤ 2000) → sumV (ssP n l) ≤ 2060 * l.length + 10
 | [], _ => by
  simp only [ssP, sesP, List.map_nil, List.nil_append, List.length_nil]
  split
  ·simp [sumV]
  ·have := varsB_len [(n : Int)] (fun y hy => by rw [List.mem_singleton] at hy; subst hy; exact ⟨by omega, by omega⟩)
   simp only [List.length_cons, List.length_nil] at this
   simp only [sumV]
   omega
 | x :: l, h => by
  have ih := ssP_sum hn fun y hy => h y (List.mem_cons_of_mem _ hy)
  obtain ⟨g1, g2⟩ := h x (List.mem_cons_self ..)
  have := (layS_len g1).2
  rw [ssP_cons]
  simp only [sumV, List.length_cons]
  omega
section
variable {D : DB} {F : Nat → Prop} {bb q n : Nat} {l : List (Nat × Ses)} {W W' : World}
theorem ds_room {rn : Nat} {td ts : Tr} (hs : ts.ps.length ≤ 41 ∧ sumV ts.ps ≤ 90000) (hd : ndP td.n td.ps ≤ 300000) (hrn : rn ≤ 20000) (h1 : td.n ≤ 20000) (h2 : ts.n ≤ 20000) : ndT (⟨0, topP (twoDS td ts), [], rn⟩ :: (twoDS td ts).map (·.t)) ≤ 580000 := by
 have hsn := ndP_le (k := ts.n) hs.1 hs.2
 have h4 : min rn 17 * 2 ≤ 17 * 2 := Nat.mul_le_mul (Nat.min_le_right _ _) (Nat.le_refl _)
 have hl : (topP (twoDS td ts)).length = 2 := rfl
 have hv : sumV (topP (twoDS td ts)) = 8 := by rw [sumV_top]; rfl
 have ht : ndP rn (topP (twoDS td ts)) ≤ 10000 := by
  have hw := ndP_W rn (topP (twoDS td ts))
  simp only [ndW, hl, hv] at hw
  split at hw
  ·omega
  ·omega
 simp only [ndT, List.map_cons, List.map_nil]
 omega
theorem ds_roomy {rn : Nat} {td ts : Tr} (hs : ts.ps.length ≤ 41 ∧ sumV ts.ps ≤ 90000) (hd : ndP td.n td.ps ≤ 300000) (hrn : rn ≤ 20000) (h1 : td.n ≤ 20000) (h2 : ts.n ≤ 20000) (name : List UInt8) (ps' : List Pair) (k : Nat) : Roomy 3000 rn (twoDS td ts) ∧ AfterB 3000 rn (twoDS td ts) name ps' k := by
 have := ds_room hs hd hrn h1 h2
 exact ⟨⟨hrn, twoDS_n h1 h2, by omega⟩, .inl (by omega)⟩
theorem Sn.small (h : Sn D F bb q n l W) : (ssP n l).length ≤ 41 ∧ sumV (ssP n l) ≤ 90000 :=
 ⟨Nat.le_trans (ssP_len n l) (by have := h.few; omega), Nat.le_trans (ssP_sum h.ok.2.2 h.good) (by have := h.few; omega)⟩
theorem nd_data {D : DB} {td : Tr} (h : ndN D.1 D.2 ≤ 300000) (h2 : td.ps = D.2) (h3 : td.n ≤ D.1) : ndP td.n td.ps ≤ 300000 := by
 refine Nat.le_trans (ndP_N _ _) (Nat.le_trans (ndN_mono _ h3) ?_)
 rw [h2]
 exact h
theorem Sn.put {n' : Nat} {l' : List (Nat × Ses)} (h : Sn D F bb q n l W) (hq : q ≤ 19000) (key v : Bytes) (hg : goodKV key v = true) (hps : insP key v (ssP n l) = ssP n' l') (hok : SesOk n' l') (hgo : ∀ x ∈ l', SesGood x.2 ∧ x.2.val.length ≤ 2000) (hfew : l'.length ≤ 40) :
  Calls Tryz.prog 18 #[ptrV bb, strV sessK, strV key, strV v] W fun e w' => e = .returned (.int .i64 0) ∧ Sn D F bb (q + 1) n' l' w' ∧ Keeps F W w' := by
 have hsm := h.small
 obtain ⟨p, rn, td, ts, h1, h2, h3, h4, h5, h6, h7⟩ := h.ex
 rw [← h3] at hsm
 obtain ⟨r1, r2⟩ := ds_roomy (rn := rn) hsm (nd_data h.room h2 h7) (by omega) (by omega) (by omega) sessK (insP key v ts.ps) (ts.n + 1)
 refine (h1.put sessK key v ⟨sessK, ts⟩ (getB_sess td ts) r1 r2 (by omega) (by decide) (by decide) hg).mono ?_
 rintro e w' ⟨rn', L', rfl, ⟨r, ids, rfl, rfl⟩, hH, hb⟩
 rw [insB_sess] at hH
 exact ⟨rfl, ⟨⟨p, rn + 1, td, ⟨r, insP key v ts.ps, ids, ts.n + 1⟩, hH, h2, by show insP key v ts.ps = _; rw [h3, hps], by omega, by omega, by show ts.n + 1 ≤ _; omega, h7⟩, hok, hgo, hfew, h.room⟩, hb⟩
theorem Sn.del {l' : List (Nat × Ses)} (h : Sn D F bb q n l W) (hq : q ≤ 19000) (key : Bytes) (hk1 : 1 ≤ key.length) (hk2 : key.length ≤ 40) (hin : (getP key (ssP n l)).isSome = true) (hps : delP key (ssP n l) = ssP n l') (hok : SesOk n l') (hgo : ∀ x ∈ l', SesGood x.2 ∧ x.2.val.length ≤ 2000) (hfew : l'.length ≤ 40) :
  Calls Tryz.prog 16 #[ptrV bb, strV sessK, strV key] W fun e w' => e = .returned (.int .i64 0) ∧ Sn D F bb (q + 1) n l' w' ∧ Keeps F W w' := by
 have hsm := h.small
 obtain ⟨p, rn, td, ts, h1, h2, h3, h4, h5, h6, h7⟩ := h.ex
 rw [← h3] at hsm hin
 obtain ⟨r1, r2⟩ := ds_roomy (rn := rn) hsm (nd_data h.room h2 h7) (by omega) (by omega) (by omega) sessK (delP key ts.ps) ts.n
 refine (h1.del sessK key ⟨sessK, ts⟩ (getB_sess td ts) r1 r2 (by omega) (by decide) (by decide) hk1 hk2 hin).mono ?_
 rintro e w' ⟨rn', L', rfl, ⟨r, ids, rfl, rfl⟩, hH, hb⟩
 rw [insB_sess] at hH
 exact ⟨rfl, ⟨⟨p, rn + 1, td, ⟨r, delP key ts.ps, ids, ts.n⟩, hH, h2, by show delP key ts.ps = _; rw [h3, hps], by omega, by omega, by show ts.n ≤ _; omega, h7⟩, hok, hgo, hfew, h.room⟩, hb⟩
end
section
variable {D : DB} {F F' : Nat → Prop} {bb q n : Nat} {l : List (Nat × Ses)} {W W' : World}
theorem Sn.fence {G : Nat → Prop} (h : Sn D F bb q n l W) (hk : Keeps G W W') (h1 : ∀ k, k < W.heap.size → F k → ¬ G k) (h2 : ∀ k, k < W.heap.size → F k → F' k) (h3 : ∀ k, W'.heap.size ≤ k → F' k) : Sn D F' bb q n l W' := by
 obtain ⟨p, rn, td, ts, g1, g2⟩ := h.ex
 exact ⟨⟨p, rn, td, ts, g1.fence hk h1 h2 h3, g2⟩, h.ok, h.good, h.few, h.room⟩
end
end Go.Ev
