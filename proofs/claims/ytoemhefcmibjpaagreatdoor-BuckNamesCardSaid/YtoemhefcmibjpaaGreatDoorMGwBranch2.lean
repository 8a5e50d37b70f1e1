/-
  Children are laid into a branch's bytes. Are children right; children laid, or refused; how many bytes they have.
-/
import Derived.Test.YtoemhefcmibjpaaGreatDoorMGwSplit
import Derived.Test.YtoemhefcmibjpaaGreatDoorMGvGetC
import Derived.Test.YtoemhefcmibjpaaGreatDoorMEvInsert
set_option linter.unusedVariables false
set_option linter.unusedSimpArgs false
set_option linter.unusedVariables false
set_option linter.unusedSimpArgs false
namespace Go.Ev
open Go.Proofs Go.RowKit
def childCs (x : Child) : List Value := [strV x.key, .int .i64 x.page]
def childrenCs : List Child → List Value
 | [] => []
 | x :: l => childCs x ++ childrenCs l
theorem childrenCs_len : ∀ l : List Child, (childrenCs l).length = l.length * 2
 | [] => rfl
 | x :: l => by
  simp only [childrenCs, List.length_append, childrenCs_len l, List.length_cons]
  show 2 + _ = _
  omega
theorem childrenCs_at : ∀ (l : List Child) (k j : Nat) (hk : k < l.length), j < 2 → (childrenCs l)[k * 2 + j]? = (childCs l[k])[j]?
 | x :: l, 0, j, hk, hj => by
  simp only [childrenCs, Nat.zero_mul, Nat.zero_add, List.getElem_cons_zero]
  rw [List.getElem?_append_left (by show j < 2; omega)]
 | x :: l, k + 1, j, hk, hj => by
  simp only [childrenCs, List.getElem_cons_succ]
  rw [List.getElem?_append_right (by show 2 ≤ _; omega)]
  have e : (k + 1) * 2 + j - (childCs x).length = k * 2 + j := by show (k + 1) * 2 + j - 2 = _; omega
  rw [e]
  exact childrenCs_at l k j (by simpa using hk) hj
theorem child_cells {w : World} {blk off : Nat} {l : List Child} (hcell : ∀ j u, (childrenCs l)[j]? = some u → w.cell? ⟨blk, off + j, none⟩ = some u) {k : Nat} (hk : k < l.length) : ∀ j u, (childCs l[k])[j]? = some u → w.cell? ⟨blk, off + k * 2 + j, none⟩ = some u := by
 intro j u hu
 have hj : j < 2 := (List.getElem?_eq_some_iff.1 hu).1
 rw [Nat.add_assoc]
 exact hcell _ _ ((childrenCs_at l k j hk hj).trans hu)
theorem child_2 {w : World} {blk o : Nat} {x : Child} (h : ∀ j u, (childCs x)[j]? = some u → w.cell? ⟨blk, o + j, none⟩ = some u) :
  w.cell? ⟨blk, o, none⟩ = some (strV x.key) ∧ w.cell? ⟨blk, o + 1, none⟩ = some (.int .i64 x.page) := ⟨h 0 _ rfl, h 1 _ rfl⟩
theorem childrenCs_snoc (x : Child) : ∀ l : List Child, childrenCs (l ++ [x]) = childrenCs l ++ childCs x
 | [] => by simp [childrenCs]
 | y :: l => by simp only [List.cons_append, childrenCs, childrenCs_snoc x l, List.append_assoc]
theorem childrenCs_append : ∀ a b : List Child, childrenCs (a ++ b) = childrenCs a ++ childrenCs b
 | [], b => rfl
 | x :: a, b => by simp only [List.cons_append, childrenCs, childrenCs_append a b, List.append_assoc]
theorem childrenCs_take : ∀ (l : List Child) (k : Nat), (childrenCs l).take (k * 2) = childrenCs (l.take k)
 | [], k => by simp [childrenCs]
 | x :: l, 0 => by simp [childrenCs]
 | x :: l, k + 1 => by
  have e : (k + 1) * 2 = (childCs x).length + k * 2 := by show _ = 2 + _; omega
  simp only [childrenCs, List.take_succ_cons, e, List.take_append, Nat.add_sub_cancel_left, childrenCs_take l k]
  rw [List.take_of_length_le (by omega)]
theorem childrenCs_drop : ∀ (l : List Child) (k : Nat), (childrenCs l).drop (k * 2) = childrenCs (l.drop k)
 | [], k => by simp [childrenCs]
 | x :: l, 0 => by simp [childrenCs]
 | x :: l, k + 1 => by
  have e : (k + 1) * 2 = (childCs x).length + k * 2 := by show _ = 2 + _; omega
  simp only [childrenCs, List.drop_succ_cons, e, List.drop_append, Nat.add_sub_cancel_left, childrenCs_drop l k]
  rw [List.drop_of_length_le (by omega)]
  rfl
theorem childrenCs_one : ∀ (l : List Child), ∀ u ∈ childrenCs l, u.oneCell' = true
 | [], u, h => by simp [childrenCs] at h
 | x :: l, u, h => by
  simp only [childrenCs, List.mem_append] at h
  rcases h with h | h
  ·simp only [childCs, List.mem_cons, List.not_mem_nil, or_false] at h
   rcases h with rfl | rfl <;> rfl
  ·exact childrenCs_one l u h
theorem Sl.len2 {w : World} {A : Option Addr} {n c : Nat} {l : List Child} (h : Sl w 2 (.slice A n c) n (childrenCs l)) : l.length = n := by
 obtain ⟨_, _, e, _, h1, _⟩ := h
 rw [childrenCs_len] at h1
 omega
def BoxC (w : World) (g : Nat) (x : Child) : Prop := Blk w g 157 #[strV x.key, .int .i64 x.page]
theorem BoxC.c {w : World} {g : Nat} {x : Child} (h : BoxC w g x) : w.cell? ⟨g, 0, none⟩ = some (strV x.key) ∧ w.cell? ⟨g, 1, none⟩ = some (.int .i64 x.page) := ⟨Blk.cell h 0, Blk.cell h 1⟩
theorem var1_at (g : Nat) (x : Int) (W : World) (hg : g < W.heap.size) (hc : W.cell? ⟨g, 0, none⟩ = some (.int .i64 x)) (hx : I64 x) :
  Calls Tryz.prog 174 #[.slice (some ⟨g, 0, none⟩) 1 1] W fun e w' => e = .returned (strV (varB x)) ∧ Below W.heap.size W w' := by
 refine (vars_any _ 1 1 [x] _ ⟨_, _, rfl, Nat.le_refl _, by simp, fun _ => ⟨g, 0, rfl, hg, fun j u hu => ?_⟩⟩ (by simp [hx]) (by omega)).mono ?_
 ·match j with
  | 0 => cases hu; exact hc
  | j + 1 => simp at hu
 ·rintro e w' ⟨rfl, hb⟩
  exact ⟨by simp [varsB], hb⟩
theorem Blk.new' {w : World} {t : TypeId} {cs : Array Value} {g : Nat} (h : g = w.heap.size) : Blk (w.alloc (.cells cs t)) g t cs := h ▸ Blk.new w t cs
theorem text_b (g : Nat) (s : Bytes) (W : World) (h : Blk W g 9 #[strV s]) (hs : (textB s).length ≤ 100000) :
  Calls Tryz.prog 172 #[.slice (some ⟨g, 0, none⟩) 1 1] W fun e w' => e = .returned (strV (textB s)) ∧ Below W.heap.size W w' := text_at g s W h.lt (h.cell 0) hs
theorem var_b (g : Nat) (x : Int) (W : World) (h : Blk W g 3 #[.int .i64 x]) (hx : I64 x) :
  Calls Tryz.prog 174 #[.slice (some ⟨g, 0, none⟩) 1 1] W fun e w' => e = .returned (strV (varB x)) ∧ Below W.heap.size W w' := var1_at g x W h.lt (h.cell 0) hx
set_option maxHeartbeats 4000000 in
set_option maxRecDepth 100000 in
theorem layC_any (A : Option Addr) (n c : Nat) (l : List Child) (w : World) (hv : Sl w 2 (.slice A n c) n (childrenCs l)) (hL : (layC l).length ≤ 100000) (hn : n ≤ 100000) (hI : ∀ x ∈ l, I64 x.page) :
  Calls Tryz.prog 178 #[.slice A n c] w fun e w' => e = .returned (strV (layC l)) ∧ Below w.heap.size w w' := by
 have hl1 : l.length = n := hv.len2
 go_enter Tryz.func178, Tryz.ntmps178
 go_wp2
 go_loopw [8] (fun i wr => ∃ (k : Nat) (F : Option Nat), k ≤ n ∧ i = .int .i64 (k : Int) ∧ Bd wr w.heap.size w.heap.size F (layC (l.take k)) ∧ Below w.heap.size w wr) (fun i _ => n - (Go.RowKit.intOf i).toNat)
 case atStart => exact ⟨0, none, by omega, rfl, Bd.new w, (Below.refl _ _).alloc (Nat.le_refl _) _⟩
 case round =>
  obtain ⟨k, F, hk, rfl, hB, hb⟩ := hrel
  have hT := layC_le l k
  have hz := hb.size
  by_cases hlt : k < n
  ·obtain ⟨A', c', e0, h0, h1, h2⟩ := hv
   cases e0
   obtain ⟨blk, off, rfl, hbl, hcell⟩ := h2 (by omega)
   have hk' : k < l.length := by omega
   obtain ⟨i0, i1⟩ := child_2 (w := wr) fun j u hu => (hb.cell (p := ⟨blk, off + k * 2 + j, none⟩) hbl).trans (child_cells hcell hk' j u hu)
   have hS : Hid (layC (l.take (k + 1)) = layC (l.take k) ++ l[k].lay) := layC_take hk'
   have hT1 := layC_le l (k + 1)
   have hI1 := hI l[k] (List.getElem_mem hk')
   have hT2 : (layC (l.take k)).length + (l[k].lay).length ≤ 100000 := by
    have := congrArg List.length hS.out
    simp only [List.length_append] at this
    omega
   clear hcell h2 h1 hl1 hT1 hI
   generalize l[k] = x at *
   have hx0 : (textB x.key).length ≤ 100000 := by
    simp only [Child.lay, List.length_append] at hT2
    omega
   have bx0 : BoxC (wr.alloc (.cells #[strV x.key, .int .i64 x.page] 157)) wr.heap.size x := Blk.new _ _ _
   have hgb : wr.heap.size ≠ w.heap.size := by have := hB.lt; omega
   have hx1 : (layC (l.take k)).length + ((textB x.key).length + (varB x.page).length) ≤ 100000 := by
    simp only [Child.lay, List.length_append] at hT2
    exact hT2
   go_wp2
   obtain ⟨p0, p1⟩ := BoxC.c bx0
   go_region_with (first
    | (go_at_call 172; go_must (refine (text_b _ _ _ (by first | (refine Blk.drew (Blk.new' ?_); simp; done) | (refine Blk.drew (Blk.alloc (Blk.new' ?_) _); simp; done)) hx0).mono ?_); rintro e w1 ⟨rfl, hb1⟩; have hB1 : Bd w1 w.heap.size w.heap.size F (layC (l.take k)) := (by first | exact Bd.below ((hB.alloc _).alloc _).drew hb1 | exact Bd.below (((hB.alloc _).alloc _).alloc _).drew hb1); have bx1 : BoxC w1 wr.heap.size x := (by first | exact Blk.below' (Blk.alloc bx0 _).drew hb1 | exact Blk.below' (Blk.alloc (Blk.alloc bx0 _) _).drew hb1); have hbw1 : Below w.heap.size w w1 := (by first | (refine (((hb.alloc hz _).alloc ?_ _).drew).trans (hb1.mono ?_) <;> (simp; omega)) | (refine ((((hb.alloc hz _).alloc ?_ _).alloc ?_ _).drew).trans (hb1.mono ?_) <;> (simp; omega))); have hz1 := hbw1.size; have q1 := BoxC.c bx1)
    | (go_at_call 174; go_must (refine (var_b _ _ _ (by first | (refine Blk.new' ?_; simp; done) | (refine Blk.below' (Blk.drew (Blk.new' ?_)) hb1; simp; done) | (refine Blk.below' (Blk.drew (Blk.alloc (Blk.new' ?_) _)) hb1; simp; done)) hI1).mono ?_); rintro e w2 ⟨rfl, hb2⟩; have hB1' : Bd w2 w.heap.size w.heap.size F (layC (l.take k)) := (by first | exact Bd.below (hB1.alloc _) hb2 | exact Bd.below hB1 hb2); have hz12 : w.heap.size ≤ w2.heap.size := (by first | (have h9 := hb2.size; omega) | (have h9 := hb2.size; simp at h9; omega)); have hbw2 : Below w.heap.size w w2 := (by first | (refine (hbw1.alloc hz1 _).trans (hb2.mono ?_); simp; omega) | exact hbw1.trans (hb2.mono hz1)))
    | (go_at_call 106; go_must (refine (bw_string hB1' _ (by simp; omega) hz12).mono ?_); rintro e w3 ⟨rfl, ⟨F2, hB2⟩, K2⟩; have hbw3 := hbw2.trans (hB1'.below_of K2 hz12)))
   all_goals
    go_wp2
    go_roundw
    case rel =>
     refine ⟨k + 1, F2, by omega, by go_num, ?_, hbw3⟩
     rw [hS.out]
     unfold Child.lay
     exact hB2
    case measure => simp [Go.RowKit.intOf]; omega
  ·have hkn : k = n := by omega
   subst hkn
   have ht : l.take k = l := List.take_of_length_le (by omega)
   rw [ht] at hB
   clear hv ht hl1
   go_wp2_with (go_at_call 108; refine (bw_text hB).mono ?_; rintro e w1 ⟨rfl, hb1⟩)
   go_ret
   exact ⟨rfl, hb.trans hb1⟩
end Go.Ev

set_option linter.unusedVariables false
set_option linter.unusedSimpArgs false
namespace Go.Ev
open Go.Proofs Go.RowKit
set_option maxHeartbeats 2000000 in
set_option maxRecDepth 100000 in
theorem rightC_any (A : Option Addr) (n c : Nat) (l : List Child) (w : World) (hv : Sl w 2 (.slice A n c) n (childrenCs l)) (hn : n ≤ 100000) (hK : ∀ x ∈ l, x.key.length ≤ 9223372036854775807) :
  Calls Tryz.prog 177 #[.slice A n c] w fun e w' => e = .returned (.bool (rightC l)) ∧ Below w.heap.size w w' := by
 have hl1 := hv.len2
 subst hl1
 go_enter Tryz.func177, Tryz.ntmps177
 go_wp2
 go_loopw [7] (fun i wr => ∃ (k : Nat), k ≤ l.length ∧ i = .int .i64 (k : Int) ∧ Hid (∀ i (h : i < l.length), i < k → stepC l i h = true) ∧ Below w.heap.size w wr) (fun i _ => l.length - (Go.RowKit.intOf i).toNat)
 case atStart => exact ⟨0, by omega, rfl, fun i h hk => absurd hk (by omega), Below.refl _ _⟩
 case round =>
  obtain ⟨k, hk, rfl, hR, hb⟩ := hrel
  have hz := hb.size
  by_cases hlt : k < l.length
  ·obtain ⟨A', c', e0, h0, h1, h2⟩ := hv
   cases e0
   obtain ⟨blk, off, rfl, hbl, hcell⟩ := h2 (by omega)
   obtain ⟨i0, i1⟩ := child_2 (w := wr) fun j u hu => (hb.cell (p := ⟨blk, off + k * 2 + j, none⟩) hbl).trans (child_cells hcell hlt j u hu)
   have hx1 := hK l[k] (List.getElem_mem hlt)
   have hF := Lib.hid (fun h => rightC_not (l := l) (k := k) hlt h)
   have hS : Hid (stepC l k hlt = true → ∀ i (h : i < l.length), i < k + 1 → stepC l i h = true) := by
    intro hs i hi hik
    by_cases e : i = k
    ·subst e; exact hs
    ·exact hR.out i hi (by omega)
   have hfit := Lib.hid (@Child.fit_iff l[k])
   have hE := Lib.hid (show stepC l k hlt = (l[k].fit && if k = 0 then l[k].key.isEmpty else lessB (l.getD (k - 1) default).key l[k].key) from rfl)
   have hBB : Below w.heap.size w (wr.alloc (.cells #[strV l[k].key, .int .i64 l[k].page] 157)) := hb.alloc hz _
   have hfalse : ∀ (b : Bool), b = false → b = false := fun _ h => h
   by_cases c1 : l[k].page < 2
   ·have hD := Lib.hid (hF.out (by rw [hE.out, show l[k].fit = false from by cases h : l[k].fit; rfl; have := hfit.out.1 h; omega]; rfl))
    clear hS hF hE hfit hR hcell h2 h1 hK
    generalize stepC l k hlt = skx at *
    generalize l[k] = x at *
    go_wp2
    go_ret
    exact ⟨(ret_b hD.out).symm, hBB⟩
   ·by_cases c2 : 4294967295 < l[k].page
    ·have hD := Lib.hid (hF.out (by rw [hE.out, show l[k].fit = false from by cases h : l[k].fit; rfl; have := hfit.out.1 h; omega]; rfl))
     clear hS hF hE hfit hR hcell h2 h1 hK
     generalize stepC l k hlt = skx at *
     generalize l[k] = x at *
     go_wp2
     go_ret
     exact ⟨(ret_b hD.out).symm, hBB⟩
    ·by_cases c3 : 40 < l[k].key.length
     ·have hD := Lib.hid (hF.out (by rw [hE.out, show l[k].fit = false from by cases h : l[k].fit; rfl; have := hfit.out.1 h; omega]; rfl))
      have c3' : (40 : Int) < (l[k].key.length : Int) := by omega
      clear hS hF hE hfit hR hcell h2 h1 hK
      generalize stepC l k hlt = skx at *
      generalize l[k] = x at *
      go_wp2
      go_ret
      exact ⟨(ret_b hD.out).symm, hBB⟩
     ·have hft : l[k].fit = true := hfit.out.2 ⟨by omega, by omega, by omega⟩
      have c3' : ¬ (40 : Int) < (l[k].key.length : Int) := by omega
      by_cases hk0 : k = 0
      ·subst hk0
       have hE2 := Lib.hid (hE.out.trans (by rw [hft, if_pos rfl, Bool.true_and]))
       clear hE hft hfit
       simp only [Nat.zero_mul, Nat.add_zero] at i0 i1
       generalize stepC l 0 hlt = skx at *
       generalize l[0] = x at *
       cases hke : x.key.isEmpty
       ·have hD := Lib.hid (hF.out (hE2.out.trans hke))
        have hk9 : (!x.key.isEmpty) = true := by simp [hke]
        clear hS hF hE2 hR hcell h2 h1 hK
        go_wp2
        go_ret
        exact ⟨(ret_b hD.out).symm, hBB⟩
       ·have hD := Lib.hid (hS.out (hE2.out.trans hke))
        have hk9 : (!x.key.isEmpty) = false := by simp [hke]
        clear hS hF hE2 hR hcell h2 h1 hK
        go_wp2
        refine wp_region_any (by kernel_rfl) ?_
        change wpAny _ _ _ _ _ _ _ (World.drew _)
        refine rd 0 (by kernel_rfl) rfl (fun K hK => ?_); go_simp; refine hK _ _ ?_; clear hK K
        refine rd 1 (by kernel_rfl) rfl (fun K hK => ?_); go_simp; refine hK _ _ ?_; clear hK K
        refine rd 2 (by kernel_rfl) rfl (fun K hK => ?_); go_simp; refine hK _ _ ?_; clear hK K
        try simp only [Act.put, lT, l0, lS]
        refine sA 3 ?_; try simp only [Act.put, lT, l0, lS]
        refine sA 4 ?_; try simp only [Act.put, lT, l0, lS]
        refine sA 5 ?_; try simp only [Act.put, lT, l0, lS]
        refine sA 6 ?_; try simp only [Act.put, lT, l0, lS]
        refine sA 7 ?_; try simp only [Act.put, lT, l0, lS]
        refine sA 8 ?_; try simp only [Act.put, lT, l0, lS]
        refine sA 9 ?_; try simp only [Act.put, lT, l0, lS]
        refine sA 10 ?_; try simp only [Act.put, lT, l0, lS]
        refine sA 11 ?_; try simp only [Act.put, lT, l0, lS]
        refine rd 12 (by kernel_rfl) rfl (fun K hK => ?_); go_simp; refine hK _ _ ?_; clear hK K
        refine rd 13 (by kernel_rfl) rfl (fun K hK => ?_); go_simp; refine hK _ _ ?_; clear hK K
        refine wpAny_done (by kernel_rfl) ?_ _
        go_wp2
        go_roundw
        case rel => exact ⟨1, by omega, by go_num, hD, hBB.drew⟩
        case measure => simp [Go.RowKit.intOf]; omega
      ·obtain ⟨j, rfl⟩ : ∃ j, k = j + 1 := ⟨k - 1, by omega⟩
       have hj : j < l.length := by omega
       have hE2 := Lib.hid (hE.out.trans (by rw [hft, if_neg hk0, Bool.true_and]))
       have hgd : l.getD (j + 1 - 1) default = l[j] := by rw [Nat.add_sub_cancel, List.getD_eq_getElem?_getD, List.getElem?_eq_getElem hj]; rfl
       rw [hgd] at hE2
       obtain ⟨j0, _⟩ := child_2 (w := wr) fun i u hu => (hb.cell (p := ⟨blk, off + j * 2 + i, none⟩) hbl).trans (child_cells hcell hj i u hu)
       have hlj : (0 : Int) ≤ (j : Int) ∧ (j : Int) < (l.length : Int) := by omega
       obtain ⟨hlj1, hlj2⟩ := hlj
       have hw : IntKind.i64.wrap (j : Int) = (j : Int) := IntWalk.i64_in _ (by omega)
       clear hE hft hfit hgd
       generalize stepC l (j + 1) hlt = skx at *
       generalize l[j + 1] = x at *
       generalize l[j] = y at *
       have bx0 : BoxC (wr.alloc (.cells #[strV x.key, .int .i64 x.page] 157)) wr.heap.size x := Blk.new _ _ _
       have j1 : (wr.alloc (.cells #[strV x.key, .int .i64 x.page] 157)).cell? ⟨blk, off + j * 2, none⟩ = some (strV y.key) := (World.cell?_alloc_past _ _ _ (by omega)).trans j0
       cases hq : lessB y.key x.key
       ·have hD := Lib.hid (hF.out (hE2.out.trans hq))
        have hor : lessB x.key y.key = true ∨ (lessB x.key y.key = false ∧ (x.key == y.key) = true) := by
         rcases lessB_total x.key y.key with h | h | h
         ·exact .inl h
         ·exact .inr ⟨by rw [h]; exact lessB_irrefl _, by simp [h]⟩
         ·rw [hq] at h; cases h
        clear hS hF hE2 hR hcell h2 h1 hK hq
        obtain ⟨p0, p1⟩ := BoxC.c bx0
        rcases hor with hq1 | ⟨hq1, hq2⟩
        all_goals
         go_wp2
         refine wp_region_any (by kernel_rfl) ?_
         change wpAny _ _ _ _ _ _ _ (World.drew _)
         refine rd 0 (by kernel_rfl) rfl (fun K hK => ?_); go_simp; refine hK _ _ ?_; clear hK K
         refine rd 1 (by kernel_rfl) rfl (fun K hK => ?_); go_simp; refine hK _ _ ?_; clear hK K
         refine rd 2 (by kernel_rfl) rfl (fun K hK => ?_); go_simp; refine hK _ _ ?_; clear hK K
         try simp only [Act.put, lT, l0, lS]
         refine tA 3 ?_; try simp only [Act.put, lT, l0, lS]
         refine tA 5 ?_; try simp only [Act.put, lT, l0, lS]
         refine tA 6 ?_; try simp only [Act.put, lT, l0, lS]
         refine tA 7 ?_; try simp only [Act.put, lT, l0, lS]
         refine tA 8 ?_; try simp only [Act.put, lT, l0, lS]
         refine tA 9 ?_; try simp only [Act.put, lT, l0, lS]
         refine wpAny_ready (rs := [4, 10]) (by kernel_rfl) (by simp) (AllReady.cons (o := { dst := _, op := _, type := _, pos := _, after := _, guard := _ }) rfl (fun K hK => ?_) (AllReady.cons (o := { dst := _, op := _, type := _, pos := _, after := _, guard := _ }) rfl (fun K hK => ?_) AllReady.nil))
        all_goals go_simp
        all_goals (refine hK _ _ ?_; clear hK K)
        ·skip
         refine rd 10 (by kernel_rfl) rfl (fun K hK => ?_); go_simp; refine hK _ _ ?_; clear hK K
         refine rd 11 (by kernel_rfl) rfl (fun K hK => ?_); go_simp; refine hK _ _ ?_; clear hK K
         refine rd 12 (by kernel_rfl) rfl (fun K hK => ?_); go_simp; refine hK _ _ ?_; clear hK K
         refine rd 13 (by kernel_rfl) rfl (fun K hK => ?_); go_simp; refine hK _ _ ?_; clear hK K
         refine wpAny_done (by kernel_rfl) ?_ _
         go_wp2
         go_ret
         exact ⟨(ret_b hD.out).symm, hBB.drew⟩
        ·skip
         refine rd 4 (by kernel_rfl) rfl (fun K hK => ?_); go_simp; refine hK _ _ ?_; clear hK K
         refine rd 11 (by kernel_rfl) rfl (fun K hK => ?_); go_simp; refine hK _ _ ?_; clear hK K
         refine rd 12 (by kernel_rfl) rfl (fun K hK => ?_); go_simp; refine hK _ _ ?_; clear hK K
         refine rd 13 (by kernel_rfl) rfl (fun K hK => ?_); go_simp; refine hK _ _ ?_; clear hK K
         refine wpAny_done (by kernel_rfl) ?_ _
         go_wp2
         go_ret
         exact ⟨(ret_b hD.out).symm, hBB.drew⟩
        ·skip
         refine rd 10 (by kernel_rfl) rfl (fun K hK => ?_); go_simp; refine hK _ _ ?_; clear hK K
         refine rd 11 (by kernel_rfl) rfl (fun K hK => ?_); go_simp; refine hK _ _ ?_; clear hK K
         refine rd 12 (by kernel_rfl) rfl (fun K hK => ?_); go_simp; refine hK _ _ ?_; clear hK K
         refine rd 13 (by kernel_rfl) rfl (fun K hK => ?_); go_simp; refine hK _ _ ?_; clear hK K
         refine wpAny_done (by kernel_rfl) ?_ _
         go_wp2
         go_ret
         exact ⟨(ret_b hD.out).symm, hBB.drew⟩
        ·skip
         refine rd 4 (by kernel_rfl) rfl (fun K hK => ?_); go_simp; refine hK _ _ ?_; clear hK K
         refine rd 11 (by kernel_rfl) rfl (fun K hK => ?_); go_simp; refine hK _ _ ?_; clear hK K
         refine rd 12 (by kernel_rfl) rfl (fun K hK => ?_); go_simp; refine hK _ _ ?_; clear hK K
         refine rd 13 (by kernel_rfl) rfl (fun K hK => ?_); go_simp; refine hK _ _ ?_; clear hK K
         refine wpAny_done (by kernel_rfl) ?_ _
         go_wp2
         go_ret
         exact ⟨(ret_b hD.out).symm, hBB.drew⟩
       ·have hD := Lib.hid (hS.out (hE2.out.trans hq))
        have hq1 := lessB_asymm hq
        have hq2 : (x.key == y.key) = false := by simpa using fun e => lessB_ne hq e.symm
        clear hS hF hE2 hR hcell h2 h1 hK
        go_wp2
        obtain ⟨p0, p1⟩ := BoxC.c bx0
        refine wp_region_any (by kernel_rfl) ?_
        change wpAny _ _ _ _ _ _ _ (World.drew _)
        refine rd 0 (by kernel_rfl) rfl (fun K hK => ?_); go_simp; refine hK _ _ ?_; clear hK K
        refine rd 1 (by kernel_rfl) rfl (fun K hK => ?_); go_simp; refine hK _ _ ?_; clear hK K
        refine rd 2 (by kernel_rfl) rfl (fun K hK => ?_); go_simp; refine hK _ _ ?_; clear hK K
        try simp only [Act.put, lT, l0, lS]
        refine tA 3 ?_; try simp only [Act.put, lT, l0, lS]
        refine tA 5 ?_; try simp only [Act.put, lT, l0, lS]
        refine tA 6 ?_; try simp only [Act.put, lT, l0, lS]
        refine tA 7 ?_; try simp only [Act.put, lT, l0, lS]
        refine tA 8 ?_; try simp only [Act.put, lT, l0, lS]
        refine tA 9 ?_; try simp only [Act.put, lT, l0, lS]
        refine wpAny_ready (rs := [4, 10]) (by kernel_rfl) (by simp) (AllReady.cons (o := { dst := _, op := _, type := _, pos := _, after := _, guard := _ }) rfl (fun K hK => ?_) (AllReady.cons (o := { dst := _, op := _, type := _, pos := _, after := _, guard := _ }) rfl (fun K hK => ?_) AllReady.nil))
        ·go_simp
         refine hK _ _ ?_
         clear hK K
         refine rd 10 (by kernel_rfl) rfl (fun K hK => ?_); go_simp; refine hK _ _ ?_; clear hK K
         refine rd 11 (by kernel_rfl) rfl (fun K hK => ?_); go_simp; refine hK _ _ ?_; clear hK K
         refine rd 12 (by kernel_rfl) rfl (fun K hK => ?_); go_simp; refine hK _ _ ?_; clear hK K
         refine rd 13 (by kernel_rfl) rfl (fun K hK => ?_); go_simp; refine hK _ _ ?_; clear hK K
         refine wpAny_done (by kernel_rfl) ?_ _
         go_wp2
         go_roundw
         case rel => exact ⟨j + 1 + 1, by omega, by go_num, hD, hBB.drew⟩
         case measure => simp [Go.RowKit.intOf]; omega
        ·go_simp
         refine hK _ _ ?_
         clear hK K
         refine rd 4 (by kernel_rfl) rfl (fun K hK => ?_); go_simp; refine hK _ _ ?_; clear hK K
         refine rd 11 (by kernel_rfl) rfl (fun K hK => ?_); go_simp; refine hK _ _ ?_; clear hK K
         refine rd 12 (by kernel_rfl) rfl (fun K hK => ?_); go_simp; refine hK _ _ ?_; clear hK K
         refine rd 13 (by kernel_rfl) rfl (fun K hK => ?_); go_simp; refine hK _ _ ?_; clear hK K
         refine wpAny_done (by kernel_rfl) ?_ _
         go_wp2
         go_roundw
         case rel => exact ⟨j + 1 + 1, by omega, by go_num, hD, hBB.drew⟩
         case measure => simp [Go.RowKit.intOf]; omega
  ·obtain rfl : k = l.length := by omega
   by_cases h0 : l = []
   ·subst h0
    clear hR hlt
    go_wp2
    go_ret
    exact ⟨rfl, hb⟩
   ·have hr := Lib.hid (rightC_iff.2 ⟨h0, fun i h => hR.out i h h⟩)
    have hpos : decide (0 < l.length) = true := by simpa using List.length_pos_iff.2 h0
    clear hR h0 hv
    go_wp2
    go_ret
    exact ⟨(ret_b hr.out).symm, hb⟩
end Go.Ev
