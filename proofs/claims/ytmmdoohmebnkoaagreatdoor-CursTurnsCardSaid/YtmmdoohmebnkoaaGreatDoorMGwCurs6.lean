/-
  Next, Prev, Seek. Pair, Seek. Seek.
-/
import Derived.Test.YtmmdoohmebnkoaaGreatDoorMGwCurs3
import Derived.Test.YtmmdoohmebnkoaaGreatDoorMGwKey
import Derived.Test.YtmmdoohmebnkoaaGreatDoorMGwPick
import Derived.Test.YtmmdoohmebnkoaaGreatDoorMGwWayLaw
set_option linter.unusedVariables false
set_option linter.unusedSimpArgs false
namespace Go.Ev
open Go.Proofs Go.RowKit

section
variable {p most cnt : Nat} {c : Pc} {M : Store} {all : List Pair} {x : Cc} {root : Int} {w : World} {st : List CStep} {items : List Item} {at' : Int} {on : Bool}

theorem next_no (hc : CurAt w p x root st items at' false) : Calls Tryz.prog 10 #[ptrV x.b] w fun e w' => e = .returned (.bool false) ∧ w = w' := by
  have HBad := Lib.hid (bad_not hc)
  have c5 : w.cell? ⟨x.b, 5, none⟩ = some (.bool false) := hc.blk.cell 5
  clear hc
  go_enter Tryz.func10, Tryz.ntmps10
  go_wp2_with (fail)
  go_must (refine HBad.out.mono ?_)
  rintro e w0 ⟨rfl, rfl⟩
  go_wp2_with (fail)
  go_ret
  exact ⟨rfl, rfl⟩
theorem prev_no (hc : CurAt w p x root st items at' false) : Calls Tryz.prog 11 #[ptrV x.b] w fun e w' => e = .returned (.bool false) ∧ w = w' := by
  have HBad := Lib.hid (bad_not hc)
  have c5 : w.cell? ⟨x.b, 5, none⟩ = some (.bool false) := hc.blk.cell 5
  clear hc
  go_enter Tryz.func11, Tryz.ntmps11
  go_wp2_with (fail)
  go_must (refine HBad.out.mono ?_)
  rintro e w0 ⟨rfl, rfl⟩
  go_wp2_with (fail)
  go_ret
  exact ⟨rfl, rfl⟩

theorem Zip.len {k : Nat} {id : Int} {lo : Bytes} {hi : Option Bytes} {ps : List Pair} {off : Nat} {path : List (List Child × Nat)} {d : Nat} (h : Zip M d all k id lo hi ps off path) : off + ps.length ≤ all.length := by
  obtain ⟨a, b, e1, e2, _⟩ := h.pos
  have := congrArg List.length e1
  simp only [List.length_append] at this
  omega

set_option maxHeartbeats 4000000 in
set_option maxRecDepth 100000 in
theorem next_ok (i : Nat) (h : PgOk w p c most M cnt) (hc : CurPos w p x root M all i) (hn : ∀ j, c.S p j → ¬ x.S j) (hlow : Low M all) :
    Calls Tryz.prog 10 #[ptrV x.b] w (GoesP p x root M all (if i + 1 < all.length then some (i + 1) else none) w) := by
  obtain ⟨R, hR⟩ : ∃ R : Option Nat, R = if i + 1 < all.length then some (i + 1) else none := ⟨_, rfl⟩
  rw [← hR]
  have HR := Lib.hid hR
  clear hR
  obtain ⟨st, its, lo, hi, ps, off, lid, j, hc, hz, ⟨i2, hla⟩, hr, hs, hj, rfl⟩ := hc
  have HBad := Lib.hid (bad_not hc)
  have hlen := hla.item.1
  have hzl := hz.len
  have hl240 : its.length ≤ 240 := by have := layI_ge0 its; omega
  have hit := hc.its
  unfold OwnsI at hit
  obtain ⟨Bi, di, hie, _⟩ := Sl.of_own hit
  have c3 : w.cell? ⟨x.b, 3, none⟩ = some (.slice Bi its.length di) := by rw [← hie]; exact hc.blk.cell 3
  have c4 : w.cell? ⟨x.b, 4, none⟩ = some (.int .i64 (j : Int)) := hc.blk.cell 4
  have c5 : w.cell? ⟨x.b, 5, none⟩ = some (.bool true) := hc.blk.cell 5
  have hw : IntKind.i64.wrap ((j : Int) + 1) = (j : Int) + 1 := IntWalk.i64_in _ (by omega)
  have HIE := Lib.hid hie
  clear hit hie
  have hcd := hc.below ((Below.refl w.heap.size w).drew)
  by_cases hlt : j + 1 < its.length
  · have hlt' : (j : Int) + 1 < (its.length : Int) := by omega
    have hS := stand_ok hcd (j + 1) hlt
    rw [show ((j + 1 : Nat) : Int) = (j : Int) + 1 by omega] at hS
    have HS := Lib.hid hS
    have HA := Lib.hid (And.intro hz (And.intro hla (And.intro hr (And.intro hs (And.intro hlt (And.intro hlen hzl))))))
    clear hS hz hla hr hs hlt hlen hzl hc h hn hlow hcd
    go_enter Tryz.func10, Tryz.ntmps10
    go_wp2_with (fail)
    go_must (refine HBad.out.mono ?_)
    rintro e w0 ⟨rfl, rfl⟩
    go_wp2_with (fail)
    go_region
    go_wp2_with (fail)
    go_must (refine HS.out.mono ?_)
    rintro e w1 ⟨rfl, q1, q2⟩
    have HQ := Lib.hid (And.intro q1 q2)
    clear q1 q2
    go_wp2_with (fail)
    go_ret
    obtain ⟨hz, hla, hr, hs, hlt, hlen, hzl⟩ := HA.out
    rw [HR.out, if_pos (by omega)]
    exact ⟨rfl, x, ⟨st, its, lo, hi, ps, off, lid, j + 1, HQ.out.1, hz, ⟨_, hla⟩, hr, hs, hlt, by omega⟩, (CurK.of_below ((Below.refl w.heap.size w).drew)).trans HQ.out.2⟩
  · have hlt' : ¬ (j : Int) + 1 < (its.length : Int) := by omega
    have hO := overN_ok lid lo hi ps off (off + ps.length) (h.below ((Below.refl w.heap.size w).drew)) hcd hn hz hlow rfl
    have HO := Lib.hid hO
    have HA := Lib.hid (And.intro h (And.intro hc (And.intro hn (And.intro hlt (And.intro hlen hzl)))))
    clear hO hz hla hr hs hlt hlen hzl hc h hn hlow hcd
    go_enter Tryz.func10, Tryz.ntmps10
    go_wp2_with (fail)
    go_must (refine HBad.out.mono ?_)
    rintro e w0 ⟨rfl, rfl⟩
    go_wp2_with (fail)
    go_region
    go_wp2_with (fail)
    go_must (refine HO.out.mono ?_)
    rintro e w1 hov
    unfold OverP at hov
    by_cases hT : off + ps.length < all.length
    · rw [decide_eq_true hT] at hov
      simp only [if_true] at hov
      obtain ⟨x2, st2, its2, lo2, hi2, ps2, off2, lid2, rfl, q1, q2, q3, ⟨i3, q4⟩, q5, q6, q7, q8⟩ := hov
      have hxb := q2.same
      have hne : its2 ≠ [] := by
        by_cases h0 : st2 = []
        · subst h0
          obtain ⟨e1, e2⟩ := Zip.top q3
          obtain ⟨h, hc, hn, hlt, hlen, hzl⟩ := HA.out
          omega
        · exact q7 h0
      have hp := List.length_pos_iff.2 hne
      have hS := stand_ok q1 0 hp
      rw [hxb] at hS
      have HS := Lib.hid hS
      have HQ := Lib.hid (And.intro q2 (And.intro q3 (And.intro q4 (And.intro q5 (And.intro q6 (And.intro q8 (And.intro hp hT)))))))
      clear hS q1 q2 q3 q4 q5 q6 q7 q8 hp hne hT
      go_wp2_with (fail)
      go_must (refine HS.out.mono ?_)
      rintro e w2 ⟨rfl, r1, r2⟩
      have HR2 := Lib.hid (And.intro r1 r2)
      clear r1 r2
      go_wp2_with (fail)
      go_ret
      obtain ⟨q2, q3, q4, q5, q6, q8, hp, hT⟩ := HQ.out
      obtain ⟨h, hc, hn, hlt, hlen, hzl⟩ := HA.out
      rw [HR.out, if_pos (by omega)]
      exact ⟨rfl, x2, ⟨st2, its2, lo2, hi2, ps2, off2, lid2, 0, HR2.out.1, q3, ⟨_, q4⟩, q5, q6, hp, by omega⟩, ((CurK.of_below ((Below.refl w.heap.size w).drew)).trans q2).trans HR2.out.2⟩
    · rw [decide_eq_false hT] at hov
      simp only [Bool.false_eq_true, if_false] at hov
      obtain ⟨rfl, q1, q2⟩ := hov
      have HQ := Lib.hid (And.intro q1 (And.intro q2 hT))
      clear q1 q2 hT
      go_wp2_with (fail)
      go_ret
      obtain ⟨q1, q2, hT⟩ := HQ.out
      obtain ⟨h, hc, hn, hlt, hlen, hzl⟩ := HA.out
      rw [HR.out, if_neg (by omega)]
      exact ⟨rfl, _, ⟨_, _, _, q1⟩, (CurK.of_below ((Below.refl w.heap.size w).drew)).trans q2⟩

set_option maxHeartbeats 4000000 in
set_option maxRecDepth 100000 in
theorem prev_ok (i : Nat) (h : PgOk w p c most M cnt) (hc : CurPos w p x root M all i) (hn : ∀ j, c.S p j → ¬ x.S j) (hlow : Low M all) :
    Calls Tryz.prog 11 #[ptrV x.b] w (GoesP p x root M all (if 0 < i then some (i - 1) else none) w) := by
  obtain ⟨R, hR⟩ : ∃ R : Option Nat, R = if 0 < i then some (i - 1) else none := ⟨_, rfl⟩
  rw [← hR]
  have HR := Lib.hid hR
  clear hR
  obtain ⟨st, its, lo, hi, ps, off, lid, j, hc, hz, ⟨i2, hla⟩, hr, hs, hj, rfl⟩ := hc
  have HBad := Lib.hid (bad_not hc)
  have hlen := hla.item.1
  have hzl := hz.len
  have hl240 : its.length ≤ 240 := by have := layI_ge0 its; omega
  have c4 : w.cell? ⟨x.b, 4, none⟩ = some (.int .i64 (j : Int)) := hc.blk.cell 4
  have c5 : w.cell? ⟨x.b, 5, none⟩ = some (.bool true) := hc.blk.cell 5
  have hw : IntKind.i64.wrap ((j : Int) - 1) = (j : Int) - 1 := IntWalk.i64_in _ (by omega)
  by_cases hlt : 0 < j
  · have hlt' : (0 : Int) < (j : Int) := by omega
    have hS := stand_ok hc (j - 1) (by omega)
    rw [show ((j - 1 : Nat) : Int) = (j : Int) - 1 by omega] at hS
    have HS := Lib.hid hS
    have HA := Lib.hid (And.intro hz (And.intro hla (And.intro hr (And.intro hs (And.intro hlt (And.intro hlen (And.intro hzl hj)))))))
    clear hS hz hla hr hs hlt hlen hzl hc h hn hlow hj
    go_enter Tryz.func11, Tryz.ntmps11
    go_wp2_with (fail)
    go_must (refine HBad.out.mono ?_)
    rintro e w0 ⟨rfl, rfl⟩
    go_wp2_with (fail)
    go_must (refine HS.out.mono ?_)
    rintro e w1 ⟨rfl, q1, q2⟩
    have HQ := Lib.hid (And.intro q1 q2)
    clear q1 q2
    go_wp2_with (fail)
    go_ret
    obtain ⟨hz, hla, hr, hs, hlt, hlen, hzl, hj⟩ := HA.out
    rw [HR.out, if_pos (by omega)]
    exact ⟨rfl, x, ⟨st, its, lo, hi, ps, off, lid, j - 1, HQ.out.1, hz, ⟨_, hla⟩, hr, hs, by omega, by omega⟩, HQ.out.2⟩
  · have hlt' : ¬ (0 : Int) < (j : Int) := by omega
    have hO := overP_ok lid lo hi ps off off h hc hn hz hlow rfl
    have HO := Lib.hid hO
    have HA := Lib.hid (And.intro h (And.intro hc (And.intro hn (And.intro hlt (And.intro hlen (And.intro hzl hj))))))
    clear hO hz hla hr hs hlt hlen hzl hc h hn hlow hj
    go_enter Tryz.func11, Tryz.ntmps11
    go_wp2_with (fail)
    go_must (refine HBad.out.mono ?_)
    rintro e w0 ⟨rfl, rfl⟩
    go_wp2_with (fail)
    go_must (refine HO.out.mono ?_)
    rintro e w1 hov
    unfold OverP at hov
    by_cases hT : 0 < off
    · rw [decide_eq_true hT] at hov
      simp only [if_true] at hov
      obtain ⟨x2, st2, its2, lo2, hi2, ps2, off2, lid2, rfl, q1, q2, q3, ⟨i3, q4⟩, q5, q6, q7, q8⟩ := hov
      have hxb := q2.same
      have hlen2 := q4.item.1
      have hne : its2 ≠ [] := by
        by_cases h0 : st2 = []
        · subst h0
          obtain ⟨e1, e2⟩ := Zip.top q3
          obtain ⟨h, hc, hn, hlt, hlen, hzl, hj⟩ := HA.out
          subst e1
          rintro rfl
          simp at hlen2
          omega
        · exact q7 h0
      have hp := List.length_pos_iff.2 hne
      have hl240 : its2.length ≤ 240 := by have := layI_ge0 its2; omega
      have hS := stand_ok q1 (its2.length - 1) (by omega)
      rw [hxb, show ((its2.length - 1 : Nat) : Int) = (its2.length : Int) - 1 by omega] at hS
      have hit := q1.its
      unfold OwnsI at hit
      obtain ⟨Bi, di, hie, _⟩ := Sl.of_own hit
      have c3 : w1.cell? ⟨x.b, 3, none⟩ = some (.slice Bi its2.length di) := by rw [← hxb, ← hie]; exact q1.blk.cell 3
      have hw2 : IntKind.i64.wrap ((its2.length : Int) - 1) = (its2.length : Int) - 1 := IntWalk.i64_in _ (by omega)
      have HS := Lib.hid hS
      have HQ := Lib.hid (And.intro q2 (And.intro q3 (And.intro q4 (And.intro q5 (And.intro q6 (And.intro q8 (And.intro hp (And.intro hT hlen2))))))))
      clear hS q1 q2 q3 q4 q5 q6 q7 q8 hp hne hT hit hie hlen2
      go_wp2_with (fail)
      go_must (refine HS.out.mono ?_)
      rintro e w2 ⟨rfl, r1, r2⟩
      have HR2 := Lib.hid (And.intro r1 r2)
      clear r1 r2
      go_wp2_with (fail)
      go_ret
      obtain ⟨q2, q3, q4, q5, q6, q8, hp, hT, hlen2⟩ := HQ.out
      obtain ⟨h, hc, hn, hlt, hlen, hzl, hj⟩ := HA.out
      rw [HR.out, if_pos (by omega)]
      exact ⟨rfl, x2, ⟨st2, its2, lo2, hi2, ps2, off2, lid2, its2.length - 1, HR2.out.1, q3, ⟨_, q4⟩, q5, q6, by omega, by omega⟩, q2.trans HR2.out.2⟩
    · rw [decide_eq_false hT] at hov
      simp only [Bool.false_eq_true, if_false] at hov
      obtain ⟨rfl, q1, q2⟩ := hov
      have HQ := Lib.hid (And.intro q1 (And.intro q2 hT))
      clear q1 q2 hT
      go_wp2_with (fail)
      go_ret
      obtain ⟨q1, q2, hT⟩ := HQ.out
      obtain ⟨h, hc, hn, hlt, hlen, hzl, hj⟩ := HA.out
      rw [HR.out, if_neg (by omega)]
      exact ⟨rfl, _, ⟨_, _, _, q1⟩, q2⟩
end
end Go.Ev

namespace Go.Ev
open Go.Proofs Go.RowKit

section
variable {p most cnt : Nat} {c : Pc} {M : Store} {all : List Pair} {x : Cc} {root : Int} {w : World} {st : List CStep} {items : List Item} {at' : Int} {on : Bool}

abbrev pairV (q : Pair) : Value := .agg #[strV q.1, strV q.2]

theorem pair_no (hc : CurAt w p x root st items at' false) : Calls Tryz.prog 9 #[ptrV x.b] w fun e w' => e = .returned (.tuple #[pairV ([], []), .bool false]) ∧ Below w.heap.size w w' := by
  have hb0 := (Below.refl w.heap.size w).alloc (Nat.le_refl _) (.cells #[strV [], strV []] 34)
  have hc0 := hc.below hb0
  have HBad := Lib.hid (bad_not hc0)
  have c5 : (w.alloc (.cells #[strV [], strV []] 34)).cell? ⟨x.b, 5, none⟩ = some (.bool false) := hc0.blk.cell 5
  have bx0 : Blk (w.alloc (.cells #[strV [], strV []] 34)) w.heap.size 34 #[strV [], strV []] := Blk.new _ _ _
  have HX := Lib.hid bx0
  have HB := Lib.hid hb0
  have q0 : (w.alloc (.cells #[strV [], strV []] 34)).cell? ⟨w.heap.size, 0, none⟩ = some (strV []) := bx0.cell 0
  have q1 : (w.alloc (.cells #[strV [], strV []] 34)).cell? ⟨w.heap.size, 1, none⟩ = some (strV []) := bx0.cell 1
  have p0 := bx0.frozen 0
  have p1 := bx0.frozen 1
  clear hc hc0 hb0 bx0
  go_enter Tryz.func9, Tryz.ntmps9
  go_wp2_with (fail)
  go_must (refine HBad.out.mono ?_)
  rintro e w0 ⟨rfl, rfl⟩
  go_wp2_with (fail)
  refine bodyPost_ret (res_row [strV [], strV []] rfl rfl rfl (by kernel_rfl) HX.out) rfl ?_
  exact ⟨rfl, HB.out⟩

set_option maxHeartbeats 4000000 in
set_option maxRecDepth 100000 in
theorem pair_ok (i : Nat) (h : PgOk w p c most M cnt) (hc : CurPos w p x root M all i) (hsh : Short all) :
    Calls Tryz.prog 9 #[ptrV x.b] w fun e w' => ∃ q, all[i]? = some q ∧ e = .returned (.tuple #[pairV q, .bool true]) ∧ Below w.heap.size w w' := by
  obtain ⟨st, its, lo, hi, ps, off, lid, j, hc, hz, ⟨i2, hla⟩, hr, hs, hj, rfl⟩ := hc
  obtain ⟨q, ids, hq, hkey, hval⟩ : ∃ q ids, all[off + j]? = some q ∧ its[j].key = q.1 ∧ ValAt M its[j] q.2 ids := by
    have hlen := hla.item.1
    obtain ⟨hkey, ids, hval⟩ := hla.item.2 j hj (by omega)
    obtain ⟨a, b, hall, hal, _⟩ := hz.pos
    refine ⟨ps[j]'(by omega), ids, ?_, hkey, hval⟩
    rw [hall, List.getElem?_append_right (by omega), hal, Nat.add_sub_cancel_left, List.getElem?_append_left (by omega), List.getElem?_eq_getElem (by omega)]
  have hsv := hsh _ (List.mem_of_getElem? hq)
  have hb0 := (Below.refl w.heap.size w).alloc (Nat.le_refl _) (.cells #[strV [], strV []] 34)
  have hc0 := hc.below hb0
  have HBad := Lib.hid (bad_not hc0)
  have c5 : (w.alloc (.cells #[strV [], strV []] 34)).cell? ⟨x.b, 5, none⟩ = some (.bool true) := hc0.blk.cell 5
  have hit := hc0.its
  unfold OwnsI at hit
  obtain ⟨Bi, di, hie, _⟩ := Sl.of_own hit
  have c3 : (w.alloc (.cells #[strV [], strV []] 34)).cell? ⟨x.b, 3, none⟩ = some (.slice Bi its.length di) := by rw [← hie]; exact hc0.blk.cell 3
  have c4 : (w.alloc (.cells #[strV [], strV []] 34)).cell? ⟨x.b, 4, none⟩ = some (.int .i64 (j : Int)) := hc0.blk.cell 4
  have c0 : (w.alloc (.cells #[strV [], strV []] 34)).cell? ⟨x.b, 0, none⟩ = some (ptrV p) := hc0.blk.cell 0
  rw [hie] at hit
  obtain ⟨_, _, e0, _, _, hcl⟩ := Sl.of_own hit
  cases e0
  obtain ⟨blk, o, rfl, hbl, hcell⟩ := hcl (by omega)
  obtain ⟨i0, i2', i1, i3⟩ := item_4 (w := w.alloc (.cells #[strV [], strV []] 34)) fun i u hu => item_cells (n := its.length) hcell hj i u hu
  have bx0 : Blk (w.alloc (.cells #[strV [], strV []] 34)) w.heap.size 34 #[strV [], strV []] := Blk.new _ _ _
  have hj0 : (0 : Int) ≤ (j : Int) := by omega
  have hj1 : (j : Int) < (its.length : Int) := by omega
  have HX := Lib.hid bx0
  have HB := Lib.hid hb0
  have HIE := Lib.hid hie
  have HA := Lib.hid (And.intro h (And.intro hval (And.intro hkey (And.intro hq (And.intro hsv hc0)))))
  have hlt : x.b < (w.alloc (.cells #[strV [], strV []] 34)).heap.size := hc0.blk.lt
  simp only [World.size_alloc] at hlt
  clear hc hz hla hr hs hq hsv hkey hval h hc0 hb0 bx0 hit hie hcl hcell
  generalize hit0 : its[j] = it at *
  clear hit0
  obtain ⟨ik, iv, io, isz⟩ := it
  simp only at i0 i1 i2' i3
  go_enter Tryz.func9, Tryz.ntmps9
  go_wp2_with (fail)
  go_must (refine HBad.out.mono ?_)
  rintro e w0 ⟨rfl, rfl⟩
  go_wp2_with (fail)
  refine wp_region_any (by kernel_rfl) ?_
  change wpAny _ _ _ _ _ _ _ (World.drew _)
  try simp only [Act.put, List.setIfInBounds_toArray, List.set_cons_zero, List.set_cons_succ]
  refine wpAny_take (oi := { dst := _, op := _, type := _, pos := _, after := _, guard := _ }) (i := 0) (v := ?_) rfl (by kernel_rfl) (by kernel_rfl) (by kernel_rfl) (fun _ _ _ h => h) (Or.inl ⟨by rfl, ?hy⟩) ?_
  case hy => (intro w; go_simp; try with_reducible rfl)
  try simp only [Act.put, List.setIfInBounds_toArray, List.set_cons_zero, List.set_cons_succ]
  try simp only [Act.put, List.setIfInBounds_toArray, List.set_cons_zero, List.set_cons_succ]
  refine wpAny_take (oi := { dst := _, op := _, type := _, pos := _, after := _, guard := _ }) (i := 1) (v := ?_) rfl (by kernel_rfl) (by kernel_rfl) (by kernel_rfl) (fun _ _ _ h => h) (Or.inl ⟨by rfl, ?hy⟩) ?_
  case hy => (intro w; go_simp; try with_reducible rfl)
  try simp only [Act.put, List.setIfInBounds_toArray, List.set_cons_zero, List.set_cons_succ]
  try simp only [Act.put, List.setIfInBounds_toArray, List.set_cons_zero, List.set_cons_succ]
  refine wpAny_take (oi := { dst := _, op := _, type := _, pos := _, after := _, guard := _ }) (i := 2) (v := ?_) rfl (by kernel_rfl) (by kernel_rfl) (by kernel_rfl) (fun _ _ _ h => h) (Or.inl ⟨by rfl, ?hy⟩) ?_
  case hy => (intro w; go_simp; try with_reducible rfl)
  try simp only [Act.put, List.setIfInBounds_toArray, List.set_cons_zero, List.set_cons_succ]
  try simp only [Act.put, List.setIfInBounds_toArray, List.set_cons_zero, List.set_cons_succ]
  refine wpAny_take (oi := { dst := _, op := _, type := _, pos := _, after := _, guard := _ }) (i := 4) (v := ?_) rfl (by kernel_rfl) (by kernel_rfl) (by kernel_rfl) (fun _ _ _ h => h) (Or.inl ⟨by rfl, ?hy⟩) ?_
  case hy => (intro w; go_simp; try with_reducible rfl)
  try simp only [Act.put, List.setIfInBounds_toArray, List.set_cons_zero, List.set_cons_succ]
  try simp only [Act.put, List.setIfInBounds_toArray, List.set_cons_zero, List.set_cons_succ]
  refine wpAny_take (oi := { dst := _, op := _, type := _, pos := _, after := _, guard := _ }) (i := 5) (v := ?_) rfl (by kernel_rfl) (by kernel_rfl) (by kernel_rfl) (fun _ _ _ h => h) (Or.inl ⟨by rfl, ?hy⟩) ?_
  case hy => (intro w; go_simp; try with_reducible rfl)
  try simp only [Act.put, List.setIfInBounds_toArray, List.set_cons_zero, List.set_cons_succ]
  try simp only [Act.put, List.setIfInBounds_toArray, List.set_cons_zero, List.set_cons_succ]
  refine wpAny_take (oi := { dst := _, op := _, type := _, pos := _, after := _, guard := _ }) (i := 6) (v := ?_) rfl (by kernel_rfl) (by kernel_rfl) (by kernel_rfl) (fun _ _ _ h => h) (Or.inl ⟨by rfl, ?hy⟩) ?_
  case hy => (intro w; go_simp; try with_reducible rfl)
  try simp only [Act.put, List.setIfInBounds_toArray, List.set_cons_zero, List.set_cons_succ]
  try simp only [Act.put, List.setIfInBounds_toArray, List.set_cons_zero, List.set_cons_succ]
  refine wpAny_takeR (oi := { dst := _, op := _, type := _, pos := _, after := _, guard := _ }) (i := 3) (v := ?_) rfl (by kernel_rfl) (by kernel_rfl) (by kernel_rfl) (fun _ _ _ h => h) ⟨by rfl, ?hy⟩ ?_
  case hy => (intro w hE; have q0 := hE.cell c3; go_simp; try with_reducible rfl)
  try simp only [Act.put, List.setIfInBounds_toArray, List.set_cons_zero, List.set_cons_succ]
  try simp only [Act.put, List.setIfInBounds_toArray, List.set_cons_zero, List.set_cons_succ]
  refine wpAny_takeR (oi := { dst := _, op := _, type := _, pos := _, after := _, guard := _ }) (i := 7) (v := ?_) rfl (by kernel_rfl) (by kernel_rfl) (by kernel_rfl) (fun _ _ _ h => h) ⟨by rfl, ?hy⟩ ?_
  case hy => (intro w hE; have q0 := hE.cell c4; go_simp; try with_reducible rfl)
  try simp only [Act.put, List.setIfInBounds_toArray, List.set_cons_zero, List.set_cons_succ]
  try simp only [Act.put, List.setIfInBounds_toArray, List.set_cons_zero, List.set_cons_succ]
  refine wpAny_take (oi := { dst := _, op := _, type := _, pos := _, after := _, guard := _ }) (i := 8) (v := ?_) rfl (by kernel_rfl) (by kernel_rfl) (by kernel_rfl) (fun _ _ _ h => h) (Or.inl ⟨by rfl, ?hy⟩) ?_
  case hy => (intro w; go_simp; try with_reducible rfl)
  try simp only [Act.put, List.setIfInBounds_toArray, List.set_cons_zero, List.set_cons_succ]
  try simp only [Act.put, List.setIfInBounds_toArray, List.set_cons_zero, List.set_cons_succ]
  refine wpAny_takeR (oi := { dst := _, op := _, type := _, pos := _, after := _, guard := _ }) (i := 9) (v := ?_) rfl (by kernel_rfl) (by kernel_rfl) (by kernel_rfl) (fun _ _ _ h => h) ⟨by rfl, ?hy⟩ ?_
  case hy => (intro w hE; have q0 := hE.cell i0; have q1 := hE.cell i1; have q2 := hE.cell i2'; have q3 := hE.cell i3; go_simp; try with_reducible rfl)
  try simp only [Act.put, List.setIfInBounds_toArray, List.set_cons_zero, List.set_cons_succ]
  refine wpAny_ready (rs := [10]) (by kernel_rfl) (by simp) (AllReady.cons (o := { dst := _, op := _, type := _, pos := _, after := _, guard := _ }) rfl (fun K hK => ?_) AllReady.nil)
  go_simp
  refine hK _ _ ?_
  clear hK K
  refine wpAny_ready (rs := [11]) (by kernel_rfl) (by simp) (AllReady.cons (o := { dst := _, op := _, type := _, pos := _, after := _, guard := _ }) rfl (fun K hK => ?_) AllReady.nil)
  go_simp
  refine hK _ _ ?_
  clear hK K
  refine wpAny_done (by kernel_rfl) ?_ _
  obtain ⟨h, hval, hkey, hq, hsv, hc0⟩ := HA.out
  subst hkey
  obtain ⟨Wx, hWx⟩ : ∃ Wx, Wx = ((w.alloc (.cells #[strV [], strV []] 34)).alloc (.cells #[strV q.1, strV iv, .int .i64 io, .int .i64 isz] 64)).drew := ⟨_, rfl⟩
  have hb1 : Below (w.alloc (.cells #[strV [], strV []] 34)).heap.size (w.alloc (.cells #[strV [], strV []] 34)) Wx := by rw [hWx]; exact ((Below.refl _ _).alloc (Nat.le_refl _) _).drew
  have hbw : Below w.heap.size w Wx := HB.out.trans (hb1.mono (by simp))
  have hids := val_len hval hsv
  have hV := value_ok ⟨q.1, iv, io, isz⟩ q.2 ids Wx.drew ((h.below hbw).below ((Below.refl _ Wx).drew)) hval hsv (by omega)
  have d0 : Wx.cell? ⟨x.b, 0, none⟩ = some (ptrV p) := (Blk.below' hc0.blk hb1).cell 0
  have bit : Blk Wx (w.heap.size + 1) 64 #[strV q.1, strV iv, .int .i64 io, .int .i64 isz] := by
    rw [hWx]
    exact Blk.new' (by simp)
  have t0 : Wx.cell? ⟨w.heap.size + 1, 0, none⟩ = some (strV q.1) := bit.cell 0
  have t1 : Wx.cell? ⟨w.heap.size + 1, 1, none⟩ = some (strV iv) := bit.cell 1
  have t2 : Wx.cell? ⟨w.heap.size + 1, 2, none⟩ = some (.int .i64 io) := bit.cell 2
  have t3 : Wx.cell? ⟨w.heap.size + 1, 3, none⟩ = some (.int .i64 isz) := bit.cell 3
  have bp : Blk Wx w.heap.size 34 #[strV [], strV []] := Blk.below' HX.out hb1
  have hzx : w.heap.size + 1 < Wx.heap.size := bit.lt
  have HV := Lib.hid hV
  have HBW := Lib.hid (And.intro hbw (And.intro bit (And.intro bp hq)))
  simp only [← hWx]
  clear hV hbw hb1 hc0 hval hsv hids h hq bit bp c0 c3 c4 c5 i0 i1 i2' i3 hWx
  go_wp2_with (fail)
  refine wp_region_any (by kernel_rfl) ?_
  change wpAny _ _ _ _ _ _ _ (World.drew _)
  try simp only [Act.put, List.setIfInBounds_toArray, List.set_cons_zero, List.set_cons_succ]
  refine wpAny_take (oi := { dst := _, op := _, type := _, pos := _, after := _, guard := _ }) (i := 0) (v := ?_) rfl (by kernel_rfl) (by kernel_rfl) (by kernel_rfl) (fun _ _ _ h => h) (Or.inl ⟨by rfl, ?hy⟩) ?_
  case hy => (intro w; go_simp; try with_reducible rfl)
  try simp only [Act.put, List.setIfInBounds_toArray, List.set_cons_zero, List.set_cons_succ]
  try simp only [Act.put, List.setIfInBounds_toArray, List.set_cons_zero, List.set_cons_succ]
  refine wpAny_take (oi := { dst := _, op := _, type := _, pos := _, after := _, guard := _ }) (i := 1) (v := ?_) rfl (by kernel_rfl) (by kernel_rfl) (by kernel_rfl) (fun _ _ _ h => h) (Or.inl ⟨by rfl, ?hy⟩) ?_
  case hy => (intro w; go_simp; try with_reducible rfl)
  try simp only [Act.put, List.setIfInBounds_toArray, List.set_cons_zero, List.set_cons_succ]
  try simp only [Act.put, List.setIfInBounds_toArray, List.set_cons_zero, List.set_cons_succ]
  refine wpAny_take (oi := { dst := _, op := _, type := _, pos := _, after := _, guard := _ }) (i := 2) (v := ?_) rfl (by kernel_rfl) (by kernel_rfl) (by kernel_rfl) (fun _ _ _ h => h) (Or.inl ⟨by rfl, ?hy⟩) ?_
  case hy => (intro w; go_simp; try with_reducible rfl)
  try simp only [Act.put, List.setIfInBounds_toArray, List.set_cons_zero, List.set_cons_succ]
  try simp only [Act.put, List.setIfInBounds_toArray, List.set_cons_zero, List.set_cons_succ]
  refine wpAny_takeR (oi := { dst := _, op := _, type := _, pos := _, after := _, guard := _ }) (i := 3) (v := ?_) rfl (by kernel_rfl) (by kernel_rfl) (by kernel_rfl) (fun _ _ _ h => h) ⟨by rfl, ?hy⟩ ?_
  case hy => (intro w hE; have q0 := hE.cell d0; go_simp; try with_reducible rfl)
  try simp only [Act.put, List.setIfInBounds_toArray, List.set_cons_zero, List.set_cons_succ]
  try simp only [Act.put, List.setIfInBounds_toArray, List.set_cons_zero, List.set_cons_succ]
  refine wpAny_takeR (oi := { dst := _, op := _, type := _, pos := _, after := _, guard := _ }) (i := 4) (v := ?_) rfl (by kernel_rfl) (by kernel_rfl) (by kernel_rfl) (fun _ _ _ h => h) ⟨by rfl, ?hy⟩ ?_
  case hy => (intro w hE; have q0 := hE.cell t0; have q1 := hE.cell t1; have q2 := hE.cell t2; have q3 := hE.cell t3; go_simp; try with_reducible rfl)
  try simp only [Act.put, List.setIfInBounds_toArray, List.set_cons_zero, List.set_cons_succ]
  refine wpAny_ready (rs := [5]) (by kernel_rfl) (by simp) (AllReady.cons (o := { dst := _, op := _, type := _, pos := _, after := _, guard := _ }) rfl (fun K hK => ?_) AllReady.nil)
  go_simp
  (go_must (refine HV.out.mono ?_); rintro e w2 ⟨rfl, hb2⟩)
  go_simp
  refine hK _ _ ?_
  clear hK K
  try simp only [Act.put, List.setIfInBounds_toArray, List.set_cons_zero, List.set_cons_succ]
  refine wpAny_take (oi := { dst := _, op := _, type := _, pos := _, after := _, guard := _ }) (i := 6) (v := ?_) rfl (by kernel_rfl) (by kernel_rfl) (by kernel_rfl) (fun _ _ _ h => h) (Or.inl ⟨by rfl, ?hy⟩) ?_
  case hy => (intro w; go_simp; try with_reducible rfl)
  try simp only [Act.put, List.setIfInBounds_toArray, List.set_cons_zero, List.set_cons_succ]
  try simp only [Act.put, List.setIfInBounds_toArray, List.set_cons_zero, List.set_cons_succ]
  refine wpAny_take (oi := { dst := _, op := _, type := _, pos := _, after := _, guard := _ }) (i := 7) (v := ?_) rfl (by kernel_rfl) (by kernel_rfl) (by kernel_rfl) (fun _ _ _ h => h) (Or.inl ⟨by rfl, ?hy⟩) ?_
  case hy => (intro w; go_simp; try with_reducible rfl)
  try simp only [Act.put, List.setIfInBounds_toArray, List.set_cons_zero, List.set_cons_succ]
  try simp only [Act.put, List.setIfInBounds_toArray, List.set_cons_zero, List.set_cons_succ]
  refine wpAny_take (oi := { dst := _, op := _, type := _, pos := _, after := _, guard := _ }) (i := 8) (v := ?_) rfl (by kernel_rfl) (by kernel_rfl) (by kernel_rfl) (fun _ _ _ h => h) (Or.inl ⟨by rfl, ?hy⟩) ?_
  case hy => (intro w; go_simp; try with_reducible rfl)
  try simp only [Act.put, List.setIfInBounds_toArray, List.set_cons_zero, List.set_cons_succ]
  refine wpAny_ready (rs := [9]) (by kernel_rfl) (by simp) (AllReady.cons (o := { dst := _, op := _, type := _, pos := _, after := _, guard := _ }) rfl (fun K hK => ?_) AllReady.nil)
  go_simp
  refine hK _ _ ?_
  clear hK K
  refine wpAny_ready (rs := [10]) (by kernel_rfl) (by simp) (AllReady.cons (o := { dst := _, op := _, type := _, pos := _, after := _, guard := _ }) rfl (fun K hK => ?_) AllReady.nil)
  go_simp
  refine hK _ _ ?_
  clear hK K
  refine wpAny_done (by kernel_rfl) ?_ _
  obtain ⟨hbw, bit, bp, hq⟩ := HBW.out
  have hb2' : Below Wx.heap.size Wx w2 := ((Below.refl _ Wx).drew).trans hb2
  have bit2 := Blk.below' bit hb2'
  have bp2 := Blk.below' bp hb2'
  have s0 : w2.cell? ⟨w.heap.size + 1, 0, none⟩ = some (strV q.1) := bit2.cell 0
  have r0 : w2.cell? ⟨w.heap.size, 0, none⟩ = some (strV []) := bp2.cell 0
  have r1 : w2.cell? ⟨w.heap.size, 1, none⟩ = some (strV []) := bp2.cell 1
  have f0 := bp2.frozen 0
  have f1 := bp2.frozen 1
  have hbf : Blk ((w2.setCell ⟨w.heap.size, 0, none⟩ (strV q.1)).setCell ⟨w.heap.size, 1, none⟩ (strV q.2)) w.heap.size 34 #[strV q.1, strV q.2] := (bp2.set 0 (strV q.1)).set 1 (strV q.2)
  have hbe : Below w.heap.size w ((w2.setCell ⟨w.heap.size, 0, none⟩ (strV q.1)).setCell ⟨w.heap.size, 1, none⟩ (strV q.2)) := ((hbw.trans (hb2'.mono (by omega))).setCell (p := ⟨w.heap.size, 0, none⟩) (Nat.le_refl _) _).setCell (p := ⟨w.heap.size, 1, none⟩) (Nat.le_refl _) _
  have HBE := Lib.hid (And.intro hbe hq)
  have HBF := Lib.hid hbf
  clear hbw bit bp hq hb2' bit2 bp2 hbf hbe hb2
  go_wp2_with (fail)
  refine bodyPost_ret (res_row [strV q.1, strV q.2] rfl rfl rfl (by kernel_rfl) HBF.out) rfl ?_
  exact ⟨q, HBE.out.2, rfl, HBE.out.1⟩
end
end Go.Ev

namespace Go.Ev
open Go.Proofs Go.RowKit

theorem aheadP_app {k : Bytes} : ∀ {a b : List Pair}, (∀ q ∈ a, lessB q.1 k = true) → aheadP k (a ++ b) = a.length + aheadP k b
  | [], b, _ => by simp
  | q :: a, b, h => by
    simp only [List.cons_append, aheadP, List.length_cons]
    rw [if_pos (h q (List.mem_cons_self ..)), aheadP_app fun z hz => h z (List.mem_cons_of_mem _ hz)]
    omega
theorem aheadP_stop {k : Bytes} : ∀ {a b : List Pair}, (∀ q ∈ b, lessB q.1 k = false) → aheadP k (a ++ b) = aheadP k a
  | [], [], _ => rfl
  | [], q :: b, h => by simp [aheadP, h q (List.mem_cons_self ..)]
  | q :: a, b, h => by
    simp only [List.cons_append, aheadP]
    rw [aheadP_stop h]
theorem ahead_leaf {M : Store} {k : Bytes} : ∀ {l : List Item} {ps : List Pair} {ids : List Int}, LeafAt M l ps ids → ahead k l = aheadP k ps
  | [], _, _, ⟨h, _⟩ => by subst h; rfl
  | x :: l, _, _, ⟨v, ps', i1, i2, h1, h2, h3, h4⟩ => by
    subst h1
    simp only [ahead, aheadP]
    rw [ahead_leaf h4]
theorem ahead_zip {M : Store} {all ps : List Pair} {id : Int} {lo : Bytes} {hi : Option Bytes} {off : Nat} {path : List (List Child × Nat)} {its : List Item} {i2 : List Int} {key : Bytes} (hz : Zip M 2 all 0 id lo hi ps off path) (hla : LeafAt M its ps i2) (hin : inR lo hi key) : aheadP key all = off + ahead key its := by
  obtain ⟨a, b, e1, e2, e3, e4⟩ := hz.pos
  rw [e1, aheadP_app fun q hq => lessB_of_lt_le (e3 q hq) hin.1, e2, aheadP_stop, ahead_leaf hla]
  intro q hq
  obtain ⟨u, hu, hl⟩ := e4 q hq
  cases hc : lessB q.1 key
  · rfl
  · have := lessB_trans hc (hin.2 u hu)
    rw [this] at hl
    cases hl

section
variable {p most cnt : Nat} {c : Pc} {M : Store} {all : List Pair} {x : Cc} {root : Int} {w : World} {st : List CStep} {items : List Item} {at' : Int} {on : Bool}

theorem seek_picks {key : Bytes} : Picks M all (fun L => findC key L) (fun lo hi _ _ => inR lo hi key) := by
  intro L lo hi ps off lo' hi' ps' off' hL h1 h2 h3 h4
  exact h3 key h4 rfl

set_option maxHeartbeats 4000000 in
set_option maxRecDepth 100000 in
theorem seek_ok (kk : Nat) (ids : List Int) (key : Bytes) (h : PgOk w p c most M cnt) (hT : TreeAt M 2 kk root [] none all ids) (hlow : Low M all) (hc : CurAt w p x root st items at' on) (hn : ∀ j, c.S p j → ¬ x.S j) :
    Calls Tryz.prog 8 #[ptrV x.b, strV key] w (GoesP p x root M all (if aheadP key all < all.length then some (aheadP key all) else none) w) := by
  obtain ⟨R, hR⟩ : ∃ R : Option Nat, R = if aheadP key all < all.length then some (aheadP key all) else none := ⟨_, rfl⟩
  rw [← hR]
  have HR := Lib.hid hR
  clear hR
  have hb0 := (Below.refl w.heap.size w).alloc (Nat.le_refl _) (.cells #[strV key] 9)
  have bk : Blk (w.alloc (.cells #[strV key] 9)) w.heap.size 9 #[strV key] := Blk.new _ _ _
  have hc0 := hc.below hb0
  have hkx : ¬ x.S w.heap.size := fun e => by have := hc.lt _ e; omega
  have HBad := Lib.hid (bad_not hc0)
  have HRe := Lib.hid (reset_ok hc0)
  have HH := Lib.hid (And.intro h (And.intro hT (And.intro hc (And.intro hn (And.intro hb0 (And.intro bk (And.intro hkx hlow)))))))
  clear h hT hc hn hc0 hb0 bk hkx hlow
  go_enter Tryz.func8, Tryz.ntmps8
  go_wp2_with (fail)
  go_must (refine HBad.out.mono ?_)
  rintro e w0 ⟨rfl, rfl⟩
  go_wp2_with (fail)
  go_must (refine HRe.out.mono ?_)
  rintro e w1 ⟨rfl, hc1, hk1⟩
  obtain ⟨h, hT, hc, hn, hb0, bk, hkx, hlow⟩ := HH.out
  have hk01 := (CurK.of_below (x := x) hb0).trans hk1
  have hpg1 := h.keeps hk01.keeps hn
  have hn1 := hk01.hn h hn
  have bk1 := bk.keeps hk1.keeps hkx
  have c1 : w1.cell? ⟨x.b, 1, none⟩ = some (.int .i64 root) := hc1.blk.cell 1
  have hkx1 : ¬ (⟨x.b, .slice none 0 0, .slice none 0 0⟩ : Cc).S w.heap.size := fun e => by
    rcases e with e | e
    · exact hkx (.inl e)
    · cases e
  have hD := down_ok 23 #[.pointer (some ⟨w.heap.size, 0, none⟩)] (fun L => findC key L) (fun lo hi _ _ => inR lo hi key) (enters_of Tryz.func23 (by kernel_rfl) rfl) (fun L hL => by
      cases L with
      | nil => exact absurd rfl hL
      | cons a b => exact findC_lt)
    (fun W A n d L hW hO hr hl hn => (seekpick_any A n d w.heap.size L key W ((bk1.keeps hW hkx1).cell 0) (by have := Sl.of_own hO; rw [hl] at this; exact this) (by omega) hr).mono fun e w' ⟨h1, h2⟩ => ⟨h1, h2 ▸ Below.refl _ _⟩) seek_picks
    kk root [] none all 0 [] [] 0 false hpg1 hc1 hn1 (.root hT) (by simpa using hlow kk _ _ hT) ⟨lessB_nil _, fun u hu => by cases hu⟩
  have HD := Lib.hid hD
  have HK := Lib.hid (And.intro hk01 bk1)
  clear h hT hc hn hb0 bk hkx hlow hc1 hk1 hk01 hpg1 hn1 hD bk1 hkx1
  go_wp2_with (fail)
  go_must (refine HD.out.mono ?_)
  rintro e w2 ⟨x2, st2, its, lo, hi, ps, off, lid, rfl, hc2, hk2, hz2, ⟨i2, hla⟩, hr, hs, hne, hq⟩
  have hxb : x2.b = x.b := hk2.same
  obtain ⟨h, hT, hc, hn, hb0, bk, hkx, hlow⟩ := HH.out
  obtain ⟨hk01, bk1⟩ := HK.out
  have hk02 := hk01.trans hk2
  have hpg2 := h.keeps hk02.keeps hn
  have hn2 := hk02.hn h hn
  have hkx1 : ¬ (⟨x.b, .slice none 0 0, .slice none 0 0⟩ : Cc).S w.heap.size := fun e => by
    rcases e with e | e
    · exact hkx (.inl e)
    · cases e
  have bk2 := bk1.keeps hk2.keeps hkx1
  have hahead := ahead_zip hz2 hla hq
  have hlen := hla.item.1
  have hl240 : its.length ≤ 240 := by have := layI_ge0 its; omega
  have hit := hc2.its
  unfold OwnsI at hit
  obtain ⟨Bi, di, hie, _⟩ := Sl.of_own hit
  have c3 : w2.cell? ⟨x.b, 3, none⟩ = some (.slice Bi its.length di) := by rw [← hxb, ← hie]; exact hc2.blk.cell 3
  have ck : w2.cell? ⟨w.heap.size, 0, none⟩ = some (strV key) := bk2.cell 0
  rw [hie] at hit
  have hF := findI_any Bi its.length di its key w2.drew (Sl.of_own hit) (by omega) hr
  have hF2 := Lib.hid hF
  have hale := ahead_le key its
  have HA := Lib.hid (And.intro hc2 (And.intro hk02 (And.intro hz2 (And.intro hla (And.intro hr (And.intro hs (And.intro hne (And.intro hpg2 (And.intro hn2 (And.intro hahead (And.intro hlen (And.intro hie hlow))))))))))))
  have hc3c : Hid (∀ W, Below w2.heap.size w2 W → W.cell? ⟨x.b, 3, none⟩ = some (.slice Bi its.length di)) := fun W hW => by rw [← hxb, ← hie]; exact (Blk.below' hc2.blk hW).cell 3
  clear h hT hc hn hb0 bk hkx hlow hk01 bk1 hk02 hpg2 hn2 hkx1 bk2 hahead hit hF hc2 hk2 hz2 hla hr hs hne hlen hie
  go_wp2_with (fail)
  refine wp_region_any (by kernel_rfl) ?_
  change wpAny _ _ _ _ _ _ _ (World.drew _)
  try simp only [Act.put, List.setIfInBounds_toArray, List.set_cons_zero, List.set_cons_succ]
  refine wpAny_take (oi := { dst := _, op := _, type := _, pos := _, after := _, guard := _ }) (i := 0) (v := ?_) rfl (by kernel_rfl) (by kernel_rfl) (by kernel_rfl) (fun _ _ _ h => h) (Or.inl ⟨by rfl, ?hy⟩) ?_
  case hy => (intro w; go_simp; try with_reducible rfl)
  try simp only [Act.put, List.setIfInBounds_toArray, List.set_cons_zero, List.set_cons_succ]
  try simp only [Act.put, List.setIfInBounds_toArray, List.set_cons_zero, List.set_cons_succ]
  refine wpAny_take (oi := { dst := _, op := _, type := _, pos := _, after := _, guard := _ }) (i := 1) (v := ?_) rfl (by kernel_rfl) (by kernel_rfl) (by kernel_rfl) (fun _ _ _ h => h) (Or.inl ⟨by rfl, ?hy⟩) ?_
  case hy => (intro w; go_simp; try with_reducible rfl)
  try simp only [Act.put, List.setIfInBounds_toArray, List.set_cons_zero, List.set_cons_succ]
  try simp only [Act.put, List.setIfInBounds_toArray, List.set_cons_zero, List.set_cons_succ]
  refine wpAny_take (oi := { dst := _, op := _, type := _, pos := _, after := _, guard := _ }) (i := 2) (v := ?_) rfl (by kernel_rfl) (by kernel_rfl) (by kernel_rfl) (fun _ _ _ h => h) (Or.inl ⟨by rfl, ?hy⟩) ?_
  case hy => (intro w; go_simp; try with_reducible rfl)
  try simp only [Act.put, List.setIfInBounds_toArray, List.set_cons_zero, List.set_cons_succ]
  try simp only [Act.put, List.setIfInBounds_toArray, List.set_cons_zero, List.set_cons_succ]
  refine wpAny_takeR (oi := { dst := _, op := _, type := _, pos := _, after := _, guard := _ }) (i := 3) (v := ?_) rfl (by kernel_rfl) (by kernel_rfl) (by kernel_rfl) (fun _ _ _ h => h) ⟨by rfl, ?hy⟩ ?_
  case hy => (intro w hE; have q0 := hE.cell c3; go_simp; try with_reducible rfl)
  try simp only [Act.put, List.setIfInBounds_toArray, List.set_cons_zero, List.set_cons_succ]
  try simp only [Act.put, List.setIfInBounds_toArray, List.set_cons_zero, List.set_cons_succ]
  refine wpAny_takeR (oi := { dst := _, op := _, type := _, pos := _, after := _, guard := _ }) (i := 4) (v := ?_) rfl (by kernel_rfl) (by kernel_rfl) (by kernel_rfl) (fun _ _ _ h => h) ⟨by rfl, ?hy⟩ ?_
  case hy => (intro w hE; have q0 := hE.cell ck; go_simp; try with_reducible rfl)
  try simp only [Act.put, List.setIfInBounds_toArray, List.set_cons_zero, List.set_cons_succ]
  refine wpAny_ready (rs := [5]) (by kernel_rfl) (by simp) (AllReady.cons (o := { dst := _, op := _, type := _, pos := _, after := _, guard := _ }) rfl (fun K hK => ?_) AllReady.nil)
  go_simp
  (go_must (refine hF2.out.mono ?_); rintro e w3 ⟨rfl, hb3⟩)
  go_simp
  refine hK _ _ ?_
  clear hK K
  try simp only [Act.put, List.setIfInBounds_toArray, List.set_cons_zero, List.set_cons_succ]
  refine wpAny_take (oi := { dst := _, op := _, type := _, pos := _, after := _, guard := _ }) (i := 6) (v := ?_) rfl (by kernel_rfl) (by kernel_rfl) (by kernel_rfl) (fun _ _ _ h => h) (Or.inl ⟨by rfl, ?hy⟩) ?_
  case hy => (intro w; go_simp; try with_reducible rfl)
  try simp only [Act.put, List.setIfInBounds_toArray, List.set_cons_zero, List.set_cons_succ]
  try simp only [Act.put, List.setIfInBounds_toArray, List.set_cons_zero, List.set_cons_succ]
  refine wpAny_take (oi := { dst := _, op := _, type := _, pos := _, after := _, guard := _ }) (i := 7) (v := ?_) rfl (by kernel_rfl) (by kernel_rfl) (by kernel_rfl) (fun _ _ _ h => h) (Or.inl ⟨by rfl, ?hy⟩) ?_
  case hy => (intro w; go_simp; try with_reducible rfl)
  try simp only [Act.put, List.setIfInBounds_toArray, List.set_cons_zero, List.set_cons_succ]
  try simp only [Act.put, List.setIfInBounds_toArray, List.set_cons_zero, List.set_cons_succ]
  refine wpAny_take (oi := { dst := _, op := _, type := _, pos := _, after := _, guard := _ }) (i := 8) (v := ?_) rfl (by kernel_rfl) (by kernel_rfl) (by kernel_rfl) (fun _ _ _ h => h) (Or.inl ⟨by rfl, ?hy⟩) ?_
  case hy => (intro w; go_simp; try with_reducible rfl)
  try simp only [Act.put, List.setIfInBounds_toArray, List.set_cons_zero, List.set_cons_succ]
  refine wpAny_ready (rs := [9]) (by kernel_rfl) (by simp) (AllReady.cons (o := { dst := _, op := _, type := _, pos := _, after := _, guard := _ }) rfl (fun K hK => ?_) AllReady.nil)
  go_simp
  refine hK _ _ ?_
  clear hK K
  refine wpAny_ready (rs := [10]) (by kernel_rfl) (by simp) (AllReady.cons (o := { dst := _, op := _, type := _, pos := _, after := _, guard := _ }) rfl (fun K hK => ?_) AllReady.nil)
  go_simp
  refine hK _ _ ?_
  clear hK K
  refine wpAny_done (by kernel_rfl) ?_ _
  obtain ⟨hc2, hk02, hz2, hla, hr, hs, hne, hpg2, hn2, hahead, hlen, hie, hlow⟩ := HA.out
  have hb23 : Below w2.heap.size w2 w3 := ((Below.refl _ w2).drew).trans hb3
  have hc3 := hc2.below hb23
  have c3' := hc3c.out w3 hb23
  by_cases hlt : ahead key its < its.length
  · have hlt' : ((ahead key its : Nat) : Int) < (its.length : Int) := by omega
    have hS := stand_ok hc3 (ahead key its) hlt
    rw [hxb] at hS
    have HS := Lib.hid hS
    have HB := Lib.hid hb23
    clear hS hc2 hk02 hz2 hla hr hs hne hpg2 hn2 hahead hlen hie hlow hb23 hc3 hb3
    go_wp2_with (fail)
    go_must (refine HS.out.mono ?_)
    rintro e w4 ⟨rfl, r1, r2⟩
    have HR2 := Lib.hid (And.intro r1 r2)
    clear r1 r2
    go_wp2_with (fail)
    go_ret
    obtain ⟨hc2, hk02, hz2, hla, hr, hs, hne, hpg2, hn2, hahead, hlen, hie, hlow⟩ := HA.out
    have hzl := hz2.len
    rw [HR.out, if_pos (by omega), hahead]
    exact ⟨rfl, x2, ⟨st2, its, lo, hi, ps, off, lid, ahead key its, HR2.out.1, hz2, ⟨_, hla⟩, hr, hs, hlt, rfl⟩, (hk02.trans (CurK.of_below HB.out)).trans HR2.out.2⟩
  · have hlt' : ¬ ((ahead key its : Nat) : Int) < (its.length : Int) := by omega
    have hO := overN_ok lid lo hi ps off (off + ps.length) (hpg2.below hb23) hc3 hn2 hz2 hlow rfl
    rw [hxb] at hO
    have HO := Lib.hid hO
    have HB := Lib.hid hb23
    clear hO hc2 hk02 hz2 hla hr hs hne hpg2 hn2 hahead hlen hie hlow hb23 hc3 hb3
    go_wp2_with (fail)
    go_must (refine HO.out.mono ?_)
    rintro e w4 hov
    unfold OverP at hov
    by_cases hT : off + ps.length < all.length
    · rw [decide_eq_true hT] at hov
      simp only [if_true] at hov
      obtain ⟨x3, st3, its3, lo3, hi3, ps3, off3, lid3, rfl, q1, q2, q3, ⟨i3, q4⟩, q5, q6, q7, q8⟩ := hov
      have hxb3 := q2.same.trans hxb
      have hlen3 := q4.item.1
      have hne3 : its3 ≠ [] := by
        by_cases h0 : st3 = []
        · subst h0
          obtain ⟨e1, e2⟩ := Zip.top q3
          rintro rfl
          subst e1
          simp at hlen3
          omega
        · exact q7 h0
      have hp := List.length_pos_iff.2 hne3
      have hS := stand_ok q1 0 hp
      rw [hxb3] at hS
      have HS := Lib.hid hS
      have HQ := Lib.hid (And.intro q2 (And.intro q3 (And.intro q4 (And.intro q5 (And.intro q6 (And.intro q8 (And.intro hp hT)))))))
      clear hS q1 q2 q3 q4 q5 q6 q7 q8 hp hne3 hT hlen3
      go_wp2_with (fail)
      go_must (refine HS.out.mono ?_)
      rintro e w5 ⟨rfl, r1, r2⟩
      have HR2 := Lib.hid (And.intro r1 r2)
      clear r1 r2
      go_wp2_with (fail)
      go_ret
      obtain ⟨q2, q3, q4, q5, q6, q8, hp, hT⟩ := HQ.out
      obtain ⟨hc2, hk02, hz2, hla, hr, hs, hne, hpg2, hn2, hahead, hlen, hie, hlow⟩ := HA.out
      rw [HR.out, if_pos (by omega), hahead]
      exact ⟨rfl, x3, ⟨st3, its3, lo3, hi3, ps3, off3, lid3, 0, HR2.out.1, q3, ⟨_, q4⟩, q5, q6, hp, by omega⟩, ((hk02.trans (CurK.of_below HB.out)).trans q2).trans HR2.out.2⟩
    · rw [decide_eq_false hT] at hov
      simp only [Bool.false_eq_true, if_false] at hov
      obtain ⟨rfl, q1, q2⟩ := hov
      have HQ := Lib.hid (And.intro q1 (And.intro q2 hT))
      clear q1 q2 hT
      go_wp2_with (fail)
      go_ret
      obtain ⟨q1, q2, hT⟩ := HQ.out
      obtain ⟨hc2, hk02, hz2, hla, hr, hs, hne, hpg2, hn2, hahead, hlen, hie, hlow⟩ := HA.out
      rw [HR.out, if_neg (by omega)]
      exact ⟨rfl, _, ⟨_, _, _, q1⟩, (hk02.trans (CurK.of_below HB.out)).trans q2⟩
end
end Go.Ev
