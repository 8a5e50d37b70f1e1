/-
  Texts of this claim.
-/
import Derived.Test.YtjdimpnonjjnaaaGreatDoorMGwWalk
set_option linter.unusedVariables false
set_option linter.unusedSimpArgs false
set_option maxHeartbeats 2000000
set_option maxRecDepth 100000
namespace Go.Ev
open Go.Proofs Go.RowKit
section
variable {p : Nat} {c : Pc} {most cnt : Nat} {M : Store}
theorem overPages_ok (id : Int) (v : Bytes) (ids : List Int) (w : World) (h : PgOk w p c most M cnt) (hc : ChainAt M id v ids) (hv : v.length ≤ 2000) (hidsl : ids.length ≤ 2000) :
  Calls Tryz.prog 104 #[ptrV p, .int .i64 id, .int .i64 v.length] w fun e w' => ∃ r, e = .returned (.tuple #[r, .int .i64 0]) ∧ w'.ownsRow w.heap.size 3 1 r ids.length (intsV ids) ∧ Below w.heap.size w w' := by
 have hW := Hdz (walk_ok id v ids w h hc hv hidsl)
 clear h hc
 go_enter Tryz.func104, Tryz.ntmps104
 go_wp2_with (fail)
 go_must (refine hW.out.mono ?_)
 rintro e w1 ⟨r, rfl, hown, hb⟩
 go_wp2_with (fail)
 go_ret2
 exact ⟨r, rfl, hown, hb⟩
theorem overGet_ok (id : Int) (v : Bytes) (ids : List Int) (w : World) (h : PgOk w p c most M cnt) (hc : ChainAt M id v ids) (hv : v.length ≤ 2000) (hidsl : ids.length ≤ 2000) :
  Calls Tryz.prog 146 #[ptrV p, .int .i64 id, .int .i64 v.length] w fun e w' => e = .returned (.tuple #[strV v, .int .i64 0]) ∧ Below w.heap.size w w' := by
 have hW := Hdz (walk_ok id v ids w h hc hv hidsl)
 clear h hc
 go_enter Tryz.func146, Tryz.ntmps146
 go_wp2_with (fail)
 go_must (refine hW.out.mono ?_)
 rintro e w1 ⟨r, rfl, hown, hb⟩
 go_wp2_with (fail)
 go_ret2
 exact ⟨rfl, hb⟩
end
theorem extract_take (b : Bytes) (k : Nat) : (ByteArray.mk b.toArray).extract 0 k = ⟨(b.take k).toArray⟩ := by
 rw [ByteArray.extract_mk, List.drop_zero, Nat.sub_zero]
def cutB (v : Bytes) : List Bytes := if h : 240 < v.length then v.take 240 :: cutB (v.drop 240) else if v = [] then [] else [v]
termination_by v.length
decreasing_by rw [List.length_drop]; omega
def strsV (l : List Bytes) : List Value := l.map strV
theorem strsV_snoc (l : List Bytes) (x : Bytes) : strsV (l ++ [x]) = strsV l ++ [strV x] := by simp [strsV]
def CutP (v : Bytes) (w : World) (e : Ending) (w' : World) : Prop := ∃ r, e = .returned r ∧ w'.ownsRow w.heap.size 9 1 r (cutB v).length (strsV (cutB v)) ∧ Below w.heap.size w w'
theorem cut_any (v : Bytes) (w : World) (hv : v.length ≤ 100000) :
  Calls Tryz.prog 161 #[strV v] w (CutP v w) := by
 obtain ⟨i0, hi, hz0, hz1, hz2⟩ := info_parts infoStr
 go_enter Tryz.func161, Tryz.ntmps161
 go_wp2
 go_loopg [0, 3] v.length (fun gk s0 s3 wr => ∃ (done : List Bytes) (rest : Bytes), s0 = strV rest ∧ rest.length ≤ gk ∧ rest.length + done.length ≤ v.length ∧ Hid (cutB v = done ++ cutB rest) ∧ wr.ownsRow w.heap.size 9 1 s3 done.length (strsV done) ∧ Below w.heap.size w wr)
 case atStart => exact ⟨[], v, rfl, Nat.le_refl _, by simp, rfl, World.ownsRow_nil _ _ _ _, Below.refl _ _⟩
 case round =>
  obtain ⟨done, rest, rfl, hg, hsum, hcut, hown, hb⟩ := hrel
  have hz := hb.size
  by_cases hlt : 240 < rest.length
  ·have hlt' : (240 : Int) < (rest.length : Int) := by omega
   have hle : (240 : Int) ≤ (rest.length : Int) := by omega
   have hc2 : Hid (cutB v = (done ++ [rest.take 240]) ++ cutB (rest.drop 240)) := by
    show _ = _
    rw [hcut.out, cutB, dif_pos hlt]
    simp
   have hx1 := extract_take rest 240
   have hx2 := extract_drop rest 240
   have hm1 : done.length + 1 ≤ maxLen := by unfold maxLen; omega
   go_wp2_with (at_builtin; go_must (refine wpList_append_own _ rfl _ _ 73 rfl w.heap.size 9 i0 _ 1 16 Tryz.underlying73 hi hz0 hz1 hz2 rfl (by decide) _ done.length (strsV done) rfl (hown.alloc _) ⟨wr.heap.size, 0, none⟩ 1 1 [strV (rest.take 240)] rfl rfl (row_newS _ _ _ _ rfl) (by simp [Value.oneCell', strV]) hm1 (by omega) (by simp; omega) ?_))
   intro v4 w4 own4 hg4 _
   have hbW : Below w.heap.size w w4 := (hb.alloc hz _).grown hg4 (by simp; omega) (fun k hk => (hown.lt k hk).1)
   have HO : Hid (w4.ownsRow w.heap.size 9 1 v4 (done ++ [rest.take 240]).length (strsV (done ++ [rest.take 240]))) := by
    show World.ownsRow _ _ _ _ _ _ _
    rw [strsV_snoc, List.length_append]
    exact own4
   clear own4 hg4
   go_wp2_with (fail)
   go_roundg (rest.length - 240)
   case measure => omega
   case rel => exact ⟨done ++ [rest.take 240], rest.drop 240, rfl, by rw [List.length_drop]; omega, by rw [List.length_drop, List.length_append, List.length_singleton]; omega, hc2, HO.out, hbW⟩
  ·have hlt' : ¬ (240 : Int) < (rest.length : Int) := by omega
   by_cases he : rest = []
   ·subst he
    have hc2 : Hid (cutB v = done) := by show _ = _; rw [hcut.out, cutB]; simp
    clear hcut
    go_wp2
    go_ret
    exact ⟨_, rfl, by rw [hc2.out]; exact hown, hb⟩
   ·have hc2 : Hid (cutB v = done ++ [rest]) := by show _ = _; rw [hcut.out, cutB, dif_neg hlt, if_neg he]
    have he1 : (!rest.isEmpty) = true := by simp [he]
    have he2 : rest.isEmpty = false := by simp [he]
    have hpl : 1 ≤ rest.length := by
     cases rest with
     | nil => exact absurd rfl he
     | cons _ _ => simp
    have hm1 : done.length + 1 ≤ maxLen := by unfold maxLen; omega
    clear hcut he
    go_wp2_with (at_builtin; go_must (refine wpList_append_own _ rfl _ _ 73 rfl w.heap.size 9 i0 _ 1 16 Tryz.underlying73 hi hz0 hz1 hz2 rfl (by decide) _ done.length (strsV done) rfl (hown.alloc _) ⟨wr.heap.size, 0, none⟩ 1 1 [strV rest] rfl rfl (row_newS _ _ _ _ rfl) (by simp [Value.oneCell', strV]) hm1 (by omega) (by simp; omega) ?_))
    intro v4 w4 own4 hg4 _
    have hbW : Below w.heap.size w w4 := (hb.alloc hz _).grown hg4 (by simp; omega) (fun k hk => (hown.lt k hk).1)
    have HO : Hid (w4.ownsRow w.heap.size 9 1 v4 (done ++ [rest]).length (strsV (done ++ [rest]))) := by
     show World.ownsRow _ _ _ _ _ _ _
     rw [strsV_snoc, List.length_append]
     exact own4
    clear own4 hg4
    go_wp2_with (fail)
    go_ret
    exact ⟨_, rfl, by rw [hc2.out]; exact HO.out, hbW⟩
abbrev leafV (v : Value) : Value := .agg #[.bool true, v, .slice none 0 0]
abbrev branchV (v : Value) : Value := .agg #[.bool false, .slice none 0 0, v]
def OwnsI (w : World) (base : Nat) (v : Value) (l : List Item) : Prop := w.ownsRow base 144 4 v l.length (itemsCs l)
theorem node_box {w : World} {b : Nat} {u0 u1 u2 : Value} (h : Blk w b 179 #[u0, u1, u2]) (x y z : Value) :
  w.cell? ⟨b, 0, none⟩ = some u0 ∧ w.cell? ⟨b, 1, none⟩ = some u1 ∧ w.cell? ⟨b, 2, none⟩ = some u2 ∧ w.frozen? ⟨b, 0, none⟩ = false ∧ w.frozen? ⟨b, 1, none⟩ = false ∧ w.frozen? ⟨b, 2, none⟩ = false ∧ Blk (((w.setCell ⟨b, 0, none⟩ x).setCell ⟨b, 1, none⟩ y).setCell ⟨b, 2, none⟩ z) b 179 #[x, y, z] :=
 ⟨h.cell 0, h.cell 1, h.cell 2, h.frozen 0, h.frozen 1, h.frozen 2, ((h.set 0 x).set 1 y).set 2 z⟩
theorem node_keeps (w : World) (b : Nat) (x y z : Value) : Keeps (fun k => k = b) w (((w.setCell ⟨b, 0, none⟩ x).setCell ⟨b, 1, none⟩ y).setCell ⟨b, 2, none⟩ z) :=
 (((Keeps.refl (fun k => k = b) w).setCell (p := ⟨b, 0, none⟩) (fun _ => rfl) x).setCell (p := ⟨b, 1, none⟩) (fun _ => rfl) y).setCell (p := ⟨b, 2, none⟩) (fun _ => rfl) z
theorem node_leaf (items : List Item) (next : Int) (w : World) (hr : riseI items = true) (hs : (layI items).length ≤ 240) :
  Calls Tryz.prog 147 #[.agg #[.int .i64 2, .int .i64 next, strV (layI items)]] w fun e w' => ∃ v, e = .returned (.tuple #[leafV v, .bool true]) ∧ OwnsI w' w.heap.size v items ∧ Below w.heap.size w w' := by
 have hG := fun W => getI_any (layI items) W (by omega)
 unfold GetPost at hG
 rw [getI_put hr hs] at hG
 have HG := Hdz hG
 have bx : Blk (w.alloc (.cells #[.int .i64 2, .int .i64 next, strV (layI items)] 172)) w.heap.size 172 #[.int .i64 2, .int .i64 next, strV (layI items)] := Blk.new _ _ _
 have x0 : (w.alloc (.cells #[.int .i64 2, .int .i64 next, strV (layI items)] 172)).cell? ⟨w.heap.size, 0, none⟩ = some (.int .i64 2) := bx.cell 0
 clear hG hr
 go_enter Tryz.func147, Tryz.ntmps147
 go_wp2_with (fail)
 go_must (refine (HG.out _).mono ?_)
 rintro e w1 ⟨v, rfl, hown, hb1⟩
 obtain ⟨A, c, rfl, _⟩ := Sl.of_own hown
 have bn : Blk ((w.alloc (.cells #[.int .i64 2, .int .i64 next, strV (layI items)] 172)).alloc (.cells #[.bool false, .slice none 0 0, .slice none 0 0] 179)) (w.heap.size + 1) 179 #[.bool false, .slice none 0 0, .slice none 0 0] := Blk.new' (by simp)
 obtain ⟨c0, c1, c2, f0, f1, f2, hbn⟩ := node_box (Blk.below' bn hb1) (.bool true) (.slice A items.length c) (.slice none 0 0)
 have hs1 := hb1.size
 simp at hs1
 have hlt := fun k hk => (hown.lt k hk).1
 simp only [alloc_size1] at hlt
 have hK := node_keeps w1 (w.heap.size + 1) (.bool true) (.slice A items.length c) (.slice none 0 0)
 have HO := Hdz (own_keeps hown hK (fun k hk e => by have := hlt k hk; omega))
 have hbW : Below w.heap.size w w1 := (((Below.refl _ w).alloc (Nat.le_refl _) _).alloc (by simp) _).trans (hb1.mono (by simp; omega))
 have HB := Hdz (hbW.trans (hK.below (by omega) (fun i hi e => by omega)))
 clear hown hlt hK
 go_wp2_with (fail)
 refine bodyPost_ret (res_row [.bool true, .slice A items.length c, .slice none 0 0] rfl rfl rfl (by kernel_rfl) hbn) rfl ?_
 exact ⟨_, rfl, own_base HO.out (by simp; omega), HB.out⟩
theorem node_branch (L : List Child) (next : Int) (w : World) (hr : rightC L = true) (hs : (layC L).length ≤ 240) :
  Calls Tryz.prog 147 #[.agg #[.int .i64 3, .int .i64 next, strV (layC L)]] w fun e w' => ∃ v, e = .returned (.tuple #[branchV v, .bool true]) ∧ OwnsC w' w.heap.size v L ∧ Below w.heap.size w w' := by
 have hG := fun W => getC_any (layC L) W (by omega)
 unfold GetCPost at hG
 rw [getC_put hr hs] at hG
 have HG := Hdz hG
 have bx : Blk (w.alloc (.cells #[.int .i64 3, .int .i64 next, strV (layC L)] 172)) w.heap.size 172 #[.int .i64 3, .int .i64 next, strV (layC L)] := Blk.new _ _ _
 have x0 : (w.alloc (.cells #[.int .i64 3, .int .i64 next, strV (layC L)] 172)).cell? ⟨w.heap.size, 0, none⟩ = some (.int .i64 3) := bx.cell 0
 clear hG hr
 go_enter Tryz.func147, Tryz.ntmps147
 go_wp2_with (fail)
 go_must (refine (HG.out _).mono ?_)
 rintro e w1 ⟨v, rfl, hown, hb1⟩
 obtain ⟨A, c, rfl, _⟩ := Sl.of_own hown
 have bn : Blk ((w.alloc (.cells #[.int .i64 3, .int .i64 next, strV (layC L)] 172)).alloc (.cells #[.bool false, .slice none 0 0, .slice none 0 0] 179)) (w.heap.size + 1) 179 #[.bool false, .slice none 0 0, .slice none 0 0] := Blk.new' (by simp)
 obtain ⟨c0, c1, c2, f0, f1, f2, hbn⟩ := node_box (Blk.below' bn hb1) (.bool false) (.slice none 0 0) (.slice A L.length c)
 have hs1 := hb1.size
 simp at hs1
 have hlt := fun k hk => (hown.lt k hk).1
 simp only [alloc_size1] at hlt
 have hK := node_keeps w1 (w.heap.size + 1) (.bool false) (.slice none 0 0) (.slice A L.length c)
 have HO := Hdz (own_keeps hown hK (fun k hk e => by have := hlt k hk; omega))
 have hbW : Below w.heap.size w w1 := (((Below.refl _ w).alloc (Nat.le_refl _) _).alloc (by simp) _).trans (hb1.mono (by simp; omega))
 have HB := Hdz (hbW.trans (hK.below (by omega) (fun i hi e => by omega)))
 clear hown hlt hK
 go_wp2_with (fail)
 refine bodyPost_ret (res_row [.bool false, .slice none 0 0, .slice A L.length c] rfl rfl rfl (by kernel_rfl) hbn) rfl ?_
 exact ⟨_, rfl, own_base HO.out (by simp; omega), HB.out⟩
section
variable {p : Nat} {c : Pc} {most cnt : Nat} {M : Store}
def LoadLeafP (items : List Item) (w : World) (e : Ending) (w' : World) : Prop := ∃ v, e = .returned (.tuple #[leafV v, .int .i64 0]) ∧ OwnsI w' w.heap.size v items ∧ Below w.heap.size w w'
def LoadBranchP (L : List Child) (w : World) (e : Ending) (w' : World) : Prop := ∃ v, e = .returned (.tuple #[branchV v, .int .i64 0]) ∧ OwnsC w' w.heap.size v L ∧ Below w.heap.size w w'
theorem load_leaf (id : Int) (k : Nat) (items : List Item) (w : World) (h : PgOk w p c most M cnt) (hm : M id = some ⟨2, 0, layI items⟩) (hr : riseI items = true) (hs : (layI items).length ≤ 240) (hk : k < 30) (hne : items ≠ [] ∨ k = 0) :
  Calls Tryz.prog 99 #[ptrV p, .int .i64 id, .int .i64 k] w (LoadLeafP items w) := by
 have hRd := Hdz (fun W (hb : Below w.heap.size w W) => read_some id _ W (h.below hb) hm)
 have hN := Hdz (fun W => node_leaf items 0 W hr hs)
 have hk30 : ¬ (30 : Int) ≤ (k : Int) := by omega
 have hemp : items = [] → k = 0 := fun e => hne.resolve_left (fun h => h e)
 clear h hm hr
 go_enter Tryz.func99, Tryz.ntmps99
 go_wp2_with (fail)
 go_must (refine (hRd.out _ ((Below.refl _ _).alloc (Nat.le_refl _) _)).mono ?_)
 rintro e w1 ⟨rfl, hb1⟩
 have bt : Blk (w.alloc (.cells #[.bool false, .slice none 0 0, .slice none 0 0] 179)) w.heap.size 179 #[.bool false, .slice none 0 0, .slice none 0 0] := Blk.new _ _ _
 have bt1 := Blk.below' bt hb1
 have hs1 := hb1.size
 simp at hs1
 go_wp2_with (fail)
 have bx : Blk (w1.alloc (.cells #[.int .i64 2, .int .i64 0, strV (layI items)] 172)) w1.heap.size 172 #[.int .i64 2, .int .i64 0, strV (layI items)] := Blk.new _ _ _
 go_must (refine (hN.out _).mono ?_)
 rintro e w2 ⟨v, rfl, hown, hb2⟩
 unfold OwnsI at hown
 obtain ⟨A, cc, rfl, _⟩ := Sl.of_own hown
 obtain ⟨n, hn⟩ := nmz (items.length)
 have hz : n = 0 → k = 0 := fun e => hemp (List.length_eq_zero_iff.mp (hn.trans e))
 rw [hn] at hown ⊢
 have hs2 := hb2.size
 simp at hs2
 have bx2 := Blk.below' bx hb2
 have y1 : (w2.alloc (.cells #[.bool true, .slice A n cc, .slice none 0 0] 179)).cell? ⟨w1.heap.size, 1, none⟩ = some (.int .i64 0) := (bx2.alloc _).cell 1
 have bt2 := (Blk.below' (bt1.alloc _) hb2).alloc (.cells #[.bool true, .slice A n cc, .slice none 0 0] 179)
 obtain ⟨c0, c1, c2, f0, f1, f2, hbn⟩ := node_box bt2 (.bool true) (.slice A n cc) (.slice none 0 0)
 have hK := node_keeps (w2.alloc (.cells #[.bool true, .slice A n cc, .slice none 0 0] 179)) w.heap.size (.bool true) (.slice A n cc) (.slice none 0 0)
 have hlt := fun k hk => (hown.lt k hk).1
 simp only [alloc_size1] at hlt
 have HO := Hdz (own_keeps (hown.alloc _) hK (fun k hk e => by have := hlt k hk; omega))
 have hbW : Below w.heap.size w (w2.alloc (.cells #[.bool true, .slice A n cc, .slice none 0 0] 179)) := (((Below.refl _ w).alloc (Nat.le_refl _) _).trans (hb1.mono (by simp))).trans ((((Below.refl _ w1).alloc (Nat.le_refl _) _).trans (hb2.mono (by simp))).mono (by omega)) |>.alloc (by omega) _
 have HB := Hdz (hbW.trans (hK.below (by simp; omega) (fun i hi e => by omega)))
 clear hown hlt hK
 clear hRd hN hemp hne hbW
 by_cases hi : n = 0
 ·have hk0 := hz hi
  subst hk0
  subst hi
  go_wp2_with (fail)
  refine bodyPost_ret (res_row [.bool true, .slice A 0 cc, .slice none 0 0] rfl rfl rfl (by kernel_rfl) hbn) rfl ?_
  refine ⟨_, rfl, ?_, HB.out⟩
  unfold OwnsI
  rw [hn]
  exact own_base HO.out (by simp; omega)
 ·go_wp2_with (fail)
  refine bodyPost_ret (res_row [.bool true, .slice A n cc, .slice none 0 0] rfl rfl rfl (by kernel_rfl) hbn) rfl ?_
  refine ⟨_, rfl, ?_, HB.out⟩
  unfold OwnsI
  rw [hn]
  exact own_base HO.out (by simp; omega)
theorem load_branch (id : Int) (k : Nat) (L : List Child) (w : World) (h : PgOk w p c most M cnt) (hm : M id = some ⟨3, 0, layC L⟩) (hr : rightC L = true) (hs : (layC L).length ≤ 240) (hk : k < 30) (hne : 2 ≤ L.length ∨ 0 < k) :
  Calls Tryz.prog 99 #[ptrV p, .int .i64 id, .int .i64 k] w (LoadBranchP L w) := by
 have hRd := Hdz (fun W (hb : Below w.heap.size w W) => read_some id _ W (h.below hb) hm)
 have hN := Hdz (fun W => node_branch L 0 W hr hs)
 have hk30 : ¬ (30 : Int) ≤ (k : Int) := by omega
 clear h hm hr
 go_enter Tryz.func99, Tryz.ntmps99
 go_wp2_with (fail)
 go_must (refine (hRd.out _ ((Below.refl _ _).alloc (Nat.le_refl _) _)).mono ?_)
 rintro e w1 ⟨rfl, hb1⟩
 have bt : Blk (w.alloc (.cells #[.bool false, .slice none 0 0, .slice none 0 0] 179)) w.heap.size 179 #[.bool false, .slice none 0 0, .slice none 0 0] := Blk.new _ _ _
 have bt1 := Blk.below' bt hb1
 have hs1 := hb1.size
 simp at hs1
 go_wp2_with (fail)
 have bx : Blk (w1.alloc (.cells #[.int .i64 3, .int .i64 0, strV (layC L)] 172)) w1.heap.size 172 #[.int .i64 3, .int .i64 0, strV (layC L)] := Blk.new _ _ _
 go_must (refine (hN.out _).mono ?_)
 rintro e w2 ⟨v, rfl, hown, hb2⟩
 unfold OwnsC at hown
 obtain ⟨A, cc, rfl, _⟩ := Sl.of_own hown
 obtain ⟨n, hn⟩ := nmz (L.length)
 rw [hn] at hne
 rw [hn] at hown ⊢
 have hs2 := hb2.size
 simp at hs2
 have bx2 := Blk.below' bx hb2
 have y1 : (w2.alloc (.cells #[.bool false, .slice none 0 0, .slice A n cc] 179)).cell? ⟨w1.heap.size, 1, none⟩ = some (.int .i64 0) := (bx2.alloc _).cell 1
 have bt2 := (Blk.below' (bt1.alloc _) hb2).alloc (.cells #[.bool false, .slice none 0 0, .slice A n cc] 179)
 obtain ⟨c0, c1, c2, f0, f1, f2, hbn⟩ := node_box bt2 (.bool false) (.slice none 0 0) (.slice A n cc)
 have hK := node_keeps (w2.alloc (.cells #[.bool false, .slice none 0 0, .slice A n cc] 179)) w.heap.size (.bool false) (.slice none 0 0) (.slice A n cc)
 have hlt := fun k hk => (hown.lt k hk).1
 simp only [alloc_size1] at hlt
 have HO := Hdz (own_keeps (hown.alloc _) hK (fun k hk e => by have := hlt k hk; omega))
 have hbW : Below w.heap.size w (w2.alloc (.cells #[.bool false, .slice none 0 0, .slice A n cc] 179)) := (((Below.refl _ w).alloc (Nat.le_refl _) _).trans (hb1.mono (by simp))).trans ((((Below.refl _ w1).alloc (Nat.le_refl _) _).trans (hb2.mono (by simp))).mono (by omega)) |>.alloc (by omega) _
 have HB := Hdz (hbW.trans (hK.below (by simp; omega) (fun i hi e => by omega)))
 clear hown hlt hK
 clear hRd hN hbW
 by_cases hk0 : k = 0
 ·subst hk0
  have hn2 : 2 ≤ n := hne.resolve_right (by omega)
  have hn2' : ¬ (n : Int) < 2 := by omega
  clear hne
  go_wp2_with (fail)
  refine bodyPost_ret (res_row [.bool false, .slice none 0 0, .slice A n cc] rfl rfl rfl (by kernel_rfl) hbn) rfl ?_
  refine ⟨_, rfl, ?_, HB.out⟩
  unfold OwnsC
  rw [hn]
  exact own_base HO.out (by simp; omega)
 ·have hk1 : ¬ (k : Int) = 0 := by omega
  clear hne
  go_wp2_with (fail)
  all_goals
   refine bodyPost_ret (res_row [.bool false, .slice none 0 0, .slice A n cc] rfl rfl rfl (by kernel_rfl) hbn) rfl ?_
   refine ⟨_, rfl, ?_, HB.out⟩
   unfold OwnsC
   rw [hn]
   exact own_base HO.out (by simp; omega)
end
end Go.Ev
