/-
  A cursor and a pair beside it; law 12's alive, walked over the contracts of all that it calls. The law arboretumlaw12.CursRanges: where its arguments are too great, or in the wrong order, it answers by alive.
-/
import Derived.Test.YtgfmhppkmogdhaaGreatDoorMRGwGrown
import Derived.Test.YtgfmhppkmogdhaaGreatDoorMRGwSt
set_option linter.unusedVariables false
set_option linter.unusedSimpArgs false
set_option linter.unusedVariables false
set_option linter.unusedSimpArgs false
namespace Go.Ev
open Go.Proofs Go.RowKit

theorem Below.of_frm {B : Nat} {F : Nat → Prop} {w w' : World} (h : Keeps (Frm B F) w w') (hB : B ≤ w.heap.size) : Below B w w' := h.below hB fun i hi e => by have := e.1; omega

/-- A cursor, and a pair in a block of its own. -/
structure Tn (w : World) (B g : Nat) (q : Pair) (p b : Nat) (c : Pc) (cnt : Nat) (M : Store) (root : Int) (all : List Pair) (o : Option Nat) (W : World) : Prop where
  st : CSt B (fun k => k = g) p b c 3000 cnt M root all o W
  bl : Below w.heap.size w W
  blk : Blk W g 44 #[strV q.1, strV q.2]
  le : w.heap.size ≤ B

section
variable {w W W' : World} {B g p b cnt : Nat} {q : Pair} {c : Pc} {M : Store} {root : Int} {all : List Pair} {o o' : Option Nat}
theorem Tn.below (h : Tn w B g q p b c cnt M root all o W) (hb : Below W.heap.size W W') : Tn w B g q p b c cnt M root all o W' := ⟨h.st.below hb, h.bl.trans (hb.mono h.bl.size), h.blk.below' hb, h.le⟩
theorem Tn.go {e : Ending} (h : Tn w B g q p b c cnt M root all o W) (hs : CStP B (fun k => k = g) p b c 3000 cnt M root all o' W e W') : e = .returned (.bool o'.isSome) ∧ Tn w B g q p b c cnt M root all o' W' := by
  obtain ⟨rfl, h1, h2⟩ := hs
  exact ⟨rfl, h1, h.bl.trans ((Below.of_frm h2 h.st.size).mono h.le), h.blk.keeps h2 fun e => e.2 rfl, h.le⟩
theorem Tn.c0 (h : Tn w B g q p b c cnt M root all o W) : W.cell? ⟨g, 0, none⟩ = some (strV q.1) := h.blk.cell 0
theorem Tn.c1 (h : Tn w B g q p b c cnt M root all o W) : W.cell? ⟨g, 1, none⟩ = some (strV q.2) := h.blk.cell 1
theorem Tn.make {w5 W6 : World} (h : CSt B (fun _ => False) p b c 3000 cnt M root all o W) (hb : Below w.heap.size w W) (hle : w.heap.size ≤ B) (h5 : Below W.heap.size W w5)
    (e6 : w5.alloc (.cells #[strV q.1, strV q.2] 44) = W6) : Tn w B w5.heap.size q p b c cnt M root all o W6 := by
  have hz5 := h5.size
  have h6 : Below W.heap.size W W6 := by
    rw [← e6]
    exact h5.alloc hz5 _
  have b6 : Blk W6 w5.heap.size 44 #[strV q.1, strV q.2] := by
    rw [← e6]
    exact Blk.new _ _ _
  exact ⟨h.also h6 (fun k hk => .inr (by subst hk; exact ⟨hz5, b6.lt⟩)), hb.trans (h6.mono hb.size), b6, hle⟩
end

def aliveOps : List OpL := [⟨0, [97], [49]⟩, ⟨0, [99], [50]⟩]

theorem alive_ops (w : World) (T : TypeId) : OpsAt (w.alloc (.cells #[.int .i64 0, strV [97], strV [49], .int .i64 0, strV [99], strV [50]] T)) (.slice (some ⟨w.heap.size, 0, none⟩) 2 2) aliveOps := by
  have hb : Blk (w.alloc (.cells #[.int .i64 0, strV [97], strV [49], .int .i64 0, strV [99], strV [50]] T)) w.heap.size T #[.int .i64 0, strV [97], strV [49], .int .i64 0, strV [99], strV [50]] := Blk.new _ _ _
  refine ⟨⟨_, _, rfl, Nat.le_refl _, rfl, fun _ => ⟨w.heap.size, 0, rfl, hb.lt, fun j u hu => ?_⟩⟩, by unfold maxLen aliveOps; simp, fun o ho => ?_⟩
  · rw [Nat.zero_add, hb.cell]
    match j with
    | 0 => exact hu
    | 1 => exact hu
    | 2 => exact hu
    | 3 => exact hu
    | 4 => exact hu
    | 5 => exact hu
    | j + 6 => simp [aliveOps, opsCs, opCs] at hu
  · unfold maxLen
    simp only [aliveOps, List.mem_cons, List.not_mem_nil, or_false] at ho
    rcases ho with rfl | rfl <;> simp

set_option maxHeartbeats 4000000 in
set_option maxRecDepth 100000 in
theorem alive12 (w : World) : Calls Tryz.prog 9 #[] w (TrueB w) := by
  have HG := Lib.hid (grown_any _ _ _ aliveOps _ (alive_ops w 76) (by decide))
  unfold GrownP at HG
  obtain ⟨all, hall⟩ : ∃ all, growP (kvs aliveOps) [] = all := ⟨_, rfl⟩
  rw [hall] at HG
  have hall2 : all = [([97], [49]), ([99], [50])] := by rw [← hall]; rfl
  have HB0 := Lib.hid ((Below.refl w.heap.size w).alloc (Nat.le_refl _) (.cells #[.int .i64 0, strV [97], strV [49], .int .i64 0, strV [99], strV [50]] 76))
  have hlen : all.length ≤ 511 := by rw [hall2]; decide
  have hseek : (if aheadP [98] all < all.length then some (aheadP [98] all) else none) = some 1 := by rw [hall2]; rfl
  have hq : all[1]? = some ([99], [50]) := by rw [hall2]; rfl
  have hl2 : all.length = 2 := by rw [hall2]; rfl
  clear hall hall2
  have Hq := Lib.hid hq
  have Hl2 := Lib.hid hl2
  have Hsk := Lib.hid hseek
  clear hq hl2 hseek
  go_enter Tryz.func9, Tryz.ntmps9
  go_wp2_with (fail)
  go_must (refine HG.out.mono ?_)
  rintro e w2 ⟨p, root, x, rfl, hGr, hb2⟩
  obtain ⟨pc, M, cnt, hpg, hT, _, _⟩ := hGr.ex
  obtain ⟨X, cx, rfl, _⟩ := Sl.of_own hGr.own
  have HB2 := Lib.hid (HB0.out.trans (hb2.mono HB0.out.size))
  have HN := Lib.hid (new_st (root := root) (all := all) hpg)
  clear hGr hb2 hpg
  go_wp2_with (fail)
  go_must (refine HN.out.mono ?_)
  rintro e w3 ⟨b, rfl, hst, hb3⟩
  have HB3 := Lib.hid (HB2.out.trans (hb3.mono HB2.out.size))
  have hz3 := hst.size
  have hS := seek_st [98] hT hlen hst
  rw [Hsk.out] at hS
  have HS := Lib.hid hS
  clear hst hb3 hS
  go_wp2_with (fail)
  go_must (refine HS.out.mono ?_)
  rintro e w4 ⟨rfl, hst4, hk4⟩
  have hB4 := Below.of_frm hk4 hz3
  have HB4 := Lib.hid (HB3.out.trans (hB4.mono (by have := HB2.out.size; omega)))
  have hP := pair_st hT hst4
  simp only [pairAt, Hq.out, Option.getD_some] at hP
  have HP := Lib.hid hP
  have HST4 := Lib.hid hst4
  clear hst4 hk4 hB4 hP
  simp only [Option.isSome_some]
  go_wp2_with (fail)
  go_must (refine HP.out.mono ?_)
  rintro e w5 ⟨rfl, hb5⟩
  obtain ⟨W6, hW6⟩ : ∃ W6, w5.alloc (.cells #[strV [99], strV [50]] 44) = W6 := ⟨_, rfl⟩
  have hTn : Tn w w2.heap.size w5.heap.size ([99], [50]) p b pc cnt M root all (some 1) W6 := Tn.make HST4.out HB4.out (by have := HB2.out.size; omega) hb5 hW6
  have hNx := next_st hT hlen hTn.st
  rw [if_neg (by rw [Hl2.out]; omega)] at hNx
  have HNx := Lib.hid hNx
  have HW6 := Lib.hid hW6
  have HTn := Lib.hid hTn
  have c0 := hTn.c0
  have c1 := hTn.c1
  clear hTn hb5 hNx hW6
  go_wp2_with (fail)
  rw [HW6.out]
  clear HW6
  go_must (refine HNx.out.mono ?_)
  intro e w7 h7
  obtain ⟨rfl, hTn⟩ := HTn.out.go h7
  have HTn7 := Lib.hid hTn
  have HPv := Lib.hid (prevNo_st hTn.st)
  have hF := first_st hT hlen hTn.st
  rw [if_neg (by rintro rfl; have := Hl2.out; simp at this)] at hF
  have HF := Lib.hid hF
  clear hTn h7 hF c0 c1
  simp only [Option.isSome_none]
  go_wp2_with (fail)
  go_must (refine HPv.out.mono ?_)
  rintro e w8 ⟨rfl, rfl⟩
  go_wp2_with (fail)
  go_must (refine HF.out.mono ?_)
  intro e w9 h9
  obtain ⟨rfl, hTn⟩ := HTn7.out.go h9
  have HTn9 := Lib.hid hTn
  have HEr := Lib.hid (err_st hTn.st)
  clear hTn h9
  simp only [Option.isSome_some]
  go_wp2_with (fail)
  go_must (refine HEr.out.mono ?_)
  rintro e w10 ⟨rfl, rfl⟩
  go_wp2_with (fail)
  go_ret
  exact ⟨rfl, HTn9.out.bl⟩

end Go.Ev

set_option linter.unusedVariables false
set_option linter.unusedSimpArgs false
namespace Go.Ev
open Go.Proofs Go.RowKit

set_option maxHeartbeats 4000000 in
set_option maxRecDepth 100000 in
theorem ranges_x1 (hAl : ∀ W, Calls Tryz.prog 9 #[] W (TrueB W)) (A : Option Addr) (n c : Nat) (ops : List OpL) (lo mid hi : Bytes) (most : Int) (w : World) (h : OpsAt w (.slice A n c) ops) (n1 n2 n3 : Nat) (hn1 : lo.length = n1) (hn2 : mid.length = n2) (hn3 : hi.length = n3) (hb1' : n1 ≤ 9223372036854775807) (hb2' : n2 ≤ 9223372036854775807) (hb3' : n3 ≤ 9223372036854775807) (c1 : (300 : Int) < (n1 : Int)) :
    Calls Tryz.prog 3 #[.slice A n c, strV lo, strV mid, strV hi, .int .i64 most] w (TrueB w) := by
  have HL := Lib.hid (light_any A n c ops w h)
  have HAl := Lib.hid hAl
  clear h hAl
  go_enter Tryz.func3, Tryz.ntmps3
  go_wp2_with (fail)
  go_must (refine HL.out.mono ?_)
  rintro e w1 ⟨bl, rfl, hlight, hb1⟩
  have HB1 := Lib.hid hb1
  clear hb1
  cases bl with
  | false =>
    clear hlight
    go_wp2_with (fail)
    go_must (refine (HAl.out _).mono ?_)
    rintro e w2 ⟨rfl, hb2⟩
    go_wp2_with (fail)
    go_ret
    exact ⟨rfl, HB1.out.trans (hb2.mono HB1.out.size)⟩
  | true =>
    clear hlight
    go_wp2_with (fail)
    go_must (refine (HAl.out _).mono ?_)
    rintro e w2 ⟨rfl, hb2⟩
    go_wp2_with (fail)
    go_ret
    exact ⟨rfl, HB1.out.trans (hb2.mono HB1.out.size)⟩

set_option maxHeartbeats 4000000 in
set_option maxRecDepth 100000 in
theorem ranges_x2 (hAl : ∀ W, Calls Tryz.prog 9 #[] W (TrueB W)) (A : Option Addr) (n c : Nat) (ops : List OpL) (lo mid hi : Bytes) (most : Int) (w : World) (h : OpsAt w (.slice A n c) ops) (n1 n2 n3 : Nat) (hn1 : lo.length = n1) (hn2 : mid.length = n2) (hn3 : hi.length = n3) (hb1' : n1 ≤ 9223372036854775807) (hb2' : n2 ≤ 9223372036854775807) (hb3' : n3 ≤ 9223372036854775807) (c1 : ¬ (300 : Int) < (n1 : Int)) (c2 : (300 : Int) < (n2 : Int)) :
    Calls Tryz.prog 3 #[.slice A n c, strV lo, strV mid, strV hi, .int .i64 most] w (TrueB w) := by
  have HL := Lib.hid (light_any A n c ops w h)
  have HAl := Lib.hid hAl
  clear h hAl
  go_enter Tryz.func3, Tryz.ntmps3
  go_wp2_with (fail)
  go_must (refine HL.out.mono ?_)
  rintro e w1 ⟨bl, rfl, hlight, hb1⟩
  have HB1 := Lib.hid hb1
  clear hb1
  cases bl with
  | false =>
    clear hlight
    go_wp2_with (fail)
    go_must (refine (HAl.out _).mono ?_)
    rintro e w2 ⟨rfl, hb2⟩
    go_wp2_with (fail)
    go_ret
    exact ⟨rfl, HB1.out.trans (hb2.mono HB1.out.size)⟩
  | true =>
    clear hlight
    go_wp2_with (fail)
    go_must (refine (HAl.out _).mono ?_)
    rintro e w2 ⟨rfl, hb2⟩
    go_wp2_with (fail)
    go_ret
    exact ⟨rfl, HB1.out.trans (hb2.mono HB1.out.size)⟩

set_option maxHeartbeats 4000000 in
set_option maxRecDepth 100000 in
theorem ranges_x3 (hAl : ∀ W, Calls Tryz.prog 9 #[] W (TrueB W)) (A : Option Addr) (n c : Nat) (ops : List OpL) (lo mid hi : Bytes) (most : Int) (w : World) (h : OpsAt w (.slice A n c) ops) (n1 n2 n3 : Nat) (hn1 : lo.length = n1) (hn2 : mid.length = n2) (hn3 : hi.length = n3) (hb1' : n1 ≤ 9223372036854775807) (hb2' : n2 ≤ 9223372036854775807) (hb3' : n3 ≤ 9223372036854775807) (c1 : ¬ (300 : Int) < (n1 : Int)) (c2 : ¬ (300 : Int) < (n2 : Int)) (c3 : (300 : Int) < (n3 : Int)) :
    Calls Tryz.prog 3 #[.slice A n c, strV lo, strV mid, strV hi, .int .i64 most] w (TrueB w) := by
  have HL := Lib.hid (light_any A n c ops w h)
  have HAl := Lib.hid hAl
  clear h hAl
  go_enter Tryz.func3, Tryz.ntmps3
  go_wp2_with (fail)
  go_must (refine HL.out.mono ?_)
  rintro e w1 ⟨bl, rfl, hlight, hb1⟩
  have HB1 := Lib.hid hb1
  clear hb1
  cases bl with
  | false =>
    clear hlight
    go_wp2_with (fail)
    go_must (refine (HAl.out _).mono ?_)
    rintro e w2 ⟨rfl, hb2⟩
    go_wp2_with (fail)
    go_ret
    exact ⟨rfl, HB1.out.trans (hb2.mono HB1.out.size)⟩
  | true =>
    clear hlight
    go_wp2_with (fail)
    go_must (refine (HAl.out _).mono ?_)
    rintro e w2 ⟨rfl, hb2⟩
    go_wp2_with (fail)
    go_ret
    exact ⟨rfl, HB1.out.trans (hb2.mono HB1.out.size)⟩

set_option maxHeartbeats 4000000 in
set_option maxRecDepth 100000 in
theorem ranges_x4 (hAl : ∀ W, Calls Tryz.prog 9 #[] W (TrueB W)) (A : Option Addr) (n c : Nat) (ops : List OpL) (lo mid hi : Bytes) (most : Int) (w : World) (h : OpsAt w (.slice A n c) ops) (n1 n2 n3 : Nat) (hn1 : lo.length = n1) (hn2 : mid.length = n2) (hn3 : hi.length = n3) (hb1' : n1 ≤ 9223372036854775807) (hb2' : n2 ≤ 9223372036854775807) (hb3' : n3 ≤ 9223372036854775807) (c1 : ¬ (300 : Int) < (n1 : Int)) (c2 : ¬ (300 : Int) < (n2 : Int)) (c3 : ¬ (300 : Int) < (n3 : Int)) (c4 : (mid == ([] : Bytes)) = true) :
    Calls Tryz.prog 3 #[.slice A n c, strV lo, strV mid, strV hi, .int .i64 most] w (TrueB w) := by
  have HL := Lib.hid (light_any A n c ops w h)
  have HAl := Lib.hid hAl
  clear h hAl
  go_enter Tryz.func3, Tryz.ntmps3
  go_wp2_with (fail)
  go_must (refine HL.out.mono ?_)
  rintro e w1 ⟨bl, rfl, hlight, hb1⟩
  have HB1 := Lib.hid hb1
  clear hb1
  cases bl with
  | false =>
    clear hlight
    go_wp2_with (fail)
    go_must (refine (HAl.out _).mono ?_)
    rintro e w2 ⟨rfl, hb2⟩
    go_wp2_with (fail)
    go_ret
    exact ⟨rfl, HB1.out.trans (hb2.mono HB1.out.size)⟩
  | true =>
    clear hlight
    go_wp2_with (fail)
    go_must (refine (HAl.out _).mono ?_)
    rintro e w2 ⟨rfl, hb2⟩
    go_wp2_with (fail)
    go_ret
    exact ⟨rfl, HB1.out.trans (hb2.mono HB1.out.size)⟩

set_option maxHeartbeats 4000000 in
set_option maxRecDepth 100000 in
theorem ranges_x5 (hAl : ∀ W, Calls Tryz.prog 9 #[] W (TrueB W)) (A : Option Addr) (n c : Nat) (ops : List OpL) (lo mid hi : Bytes) (most : Int) (w : World) (h : OpsAt w (.slice A n c) ops) (n1 n2 n3 : Nat) (hn1 : lo.length = n1) (hn2 : mid.length = n2) (hn3 : hi.length = n3) (hb1' : n1 ≤ 9223372036854775807) (hb2' : n2 ≤ 9223372036854775807) (hb3' : n3 ≤ 9223372036854775807) (c1 : ¬ (300 : Int) < (n1 : Int)) (c2 : ¬ (300 : Int) < (n2 : Int)) (c3 : ¬ (300 : Int) < (n3 : Int)) (c4 : (mid == ([] : Bytes)) = false) (c5 : (hi == ([] : Bytes)) = true) :
    Calls Tryz.prog 3 #[.slice A n c, strV lo, strV mid, strV hi, .int .i64 most] w (TrueB w) := by
  have HL := Lib.hid (light_any A n c ops w h)
  have HAl := Lib.hid hAl
  clear h hAl
  go_enter Tryz.func3, Tryz.ntmps3
  go_wp2_with (fail)
  go_must (refine HL.out.mono ?_)
  rintro e w1 ⟨bl, rfl, hlight, hb1⟩
  have HB1 := Lib.hid hb1
  clear hb1
  cases bl with
  | false =>
    clear hlight
    go_wp2_with (fail)
    go_must (refine (HAl.out _).mono ?_)
    rintro e w2 ⟨rfl, hb2⟩
    go_wp2_with (fail)
    go_ret
    exact ⟨rfl, HB1.out.trans (hb2.mono HB1.out.size)⟩
  | true =>
    clear hlight
    go_wp2_with (fail)
    go_must (refine (HAl.out _).mono ?_)
    rintro e w2 ⟨rfl, hb2⟩
    go_wp2_with (fail)
    go_ret
    exact ⟨rfl, HB1.out.trans (hb2.mono HB1.out.size)⟩

set_option maxHeartbeats 4000000 in
set_option maxRecDepth 100000 in
theorem ranges_x6 (hAl : ∀ W, Calls Tryz.prog 9 #[] W (TrueB W)) (A : Option Addr) (n c : Nat) (ops : List OpL) (lo mid hi : Bytes) (most : Int) (w : World) (h : OpsAt w (.slice A n c) ops) (n1 n2 n3 : Nat) (hn1 : lo.length = n1) (hn2 : mid.length = n2) (hn3 : hi.length = n3) (hb1' : n1 ≤ 9223372036854775807) (hb2' : n2 ≤ 9223372036854775807) (hb3' : n3 ≤ 9223372036854775807) (c1 : ¬ (300 : Int) < (n1 : Int)) (c2 : ¬ (300 : Int) < (n2 : Int)) (c3 : ¬ (300 : Int) < (n3 : Int)) (c4 : (mid == ([] : Bytes)) = false) (c5 : (hi == ([] : Bytes)) = false) (c6 : (Op.bytesLess lo mid || lo == mid) = false) :
    Calls Tryz.prog 3 #[.slice A n c, strV lo, strV mid, strV hi, .int .i64 most] w (TrueB w) := by
  have HL := Lib.hid (light_any A n c ops w h)
  have HAl := Lib.hid hAl
  clear h hAl
  go_enter Tryz.func3, Tryz.ntmps3
  go_wp2_with (fail)
  go_must (refine HL.out.mono ?_)
  rintro e w1 ⟨bl, rfl, hlight, hb1⟩
  have HB1 := Lib.hid hb1
  clear hb1
  cases bl with
  | false =>
    clear hlight
    go_wp2_with (fail)
    go_must (refine (HAl.out _).mono ?_)
    rintro e w2 ⟨rfl, hb2⟩
    go_wp2_with (fail)
    go_ret
    exact ⟨rfl, HB1.out.trans (hb2.mono HB1.out.size)⟩
  | true =>
    clear hlight
    go_wp2_with (fail)
    go_must (refine (HAl.out _).mono ?_)
    rintro e w2 ⟨rfl, hb2⟩
    go_wp2_with (fail)
    go_ret
    exact ⟨rfl, HB1.out.trans (hb2.mono HB1.out.size)⟩

set_option maxHeartbeats 4000000 in
set_option maxRecDepth 100000 in
theorem ranges_x7 (hAl : ∀ W, Calls Tryz.prog 9 #[] W (TrueB W)) (A : Option Addr) (n c : Nat) (ops : List OpL) (lo mid hi : Bytes) (most : Int) (w : World) (h : OpsAt w (.slice A n c) ops) (n1 n2 n3 : Nat) (hn1 : lo.length = n1) (hn2 : mid.length = n2) (hn3 : hi.length = n3) (hb1' : n1 ≤ 9223372036854775807) (hb2' : n2 ≤ 9223372036854775807) (hb3' : n3 ≤ 9223372036854775807) (c1 : ¬ (300 : Int) < (n1 : Int)) (c2 : ¬ (300 : Int) < (n2 : Int)) (c3 : ¬ (300 : Int) < (n3 : Int)) (c4 : (mid == ([] : Bytes)) = false) (c5 : (hi == ([] : Bytes)) = false) (c6 : (Op.bytesLess lo mid || lo == mid) = true) (c7 : (Op.bytesLess mid hi || mid == hi) = false) :
    Calls Tryz.prog 3 #[.slice A n c, strV lo, strV mid, strV hi, .int .i64 most] w (TrueB w) := by
  have HL := Lib.hid (light_any A n c ops w h)
  have HAl := Lib.hid hAl
  clear h hAl
  go_enter Tryz.func3, Tryz.ntmps3
  go_wp2_with (fail)
  go_must (refine HL.out.mono ?_)
  rintro e w1 ⟨bl, rfl, hlight, hb1⟩
  have HB1 := Lib.hid hb1
  clear hb1
  cases bl with
  | false =>
    clear hlight
    go_wp2_with (fail)
    go_must (refine (HAl.out _).mono ?_)
    rintro e w2 ⟨rfl, hb2⟩
    go_wp2_with (fail)
    go_ret
    exact ⟨rfl, HB1.out.trans (hb2.mono HB1.out.size)⟩
  | true =>
    clear hlight
    go_wp2_with (fail)
    go_must (refine (HAl.out _).mono ?_)
    rintro e w2 ⟨rfl, hb2⟩
    go_wp2_with (fail)
    go_ret
    exact ⟨rfl, HB1.out.trans (hb2.mono HB1.out.size)⟩

set_option maxHeartbeats 4000000 in
set_option maxRecDepth 100000 in
theorem ranges_x8 (hAl : ∀ W, Calls Tryz.prog 9 #[] W (TrueB W)) (A : Option Addr) (n c : Nat) (ops : List OpL) (lo mid hi : Bytes) (most : Int) (w : World) (h : OpsAt w (.slice A n c) ops) (n1 n2 n3 : Nat) (hn1 : lo.length = n1) (hn2 : mid.length = n2) (hn3 : hi.length = n3) (hb1' : n1 ≤ 9223372036854775807) (hb2' : n2 ≤ 9223372036854775807) (hb3' : n3 ≤ 9223372036854775807) (c1 : ¬ (300 : Int) < (n1 : Int)) (c2 : ¬ (300 : Int) < (n2 : Int)) (c3 : ¬ (300 : Int) < (n3 : Int)) (c4 : (mid == ([] : Bytes)) = false) (c5 : (hi == ([] : Bytes)) = false) (c6 : (Op.bytesLess lo mid || lo == mid) = true) (c7 : (Op.bytesLess mid hi || mid == hi) = true) (c8 : most < 1) :
    Calls Tryz.prog 3 #[.slice A n c, strV lo, strV mid, strV hi, .int .i64 most] w (TrueB w) := by
  have HL := Lib.hid (light_any A n c ops w h)
  have HAl := Lib.hid hAl
  clear h hAl
  go_enter Tryz.func3, Tryz.ntmps3
  go_wp2_with (fail)
  go_must (refine HL.out.mono ?_)
  rintro e w1 ⟨bl, rfl, hlight, hb1⟩
  have HB1 := Lib.hid hb1
  clear hb1
  cases bl with
  | false =>
    clear hlight
    go_wp2_with (fail)
    go_must (refine (HAl.out _).mono ?_)
    rintro e w2 ⟨rfl, hb2⟩
    go_wp2_with (fail)
    go_ret
    exact ⟨rfl, HB1.out.trans (hb2.mono HB1.out.size)⟩
  | true =>
    clear hlight
    go_wp2_with (fail)
    go_must (refine (HAl.out _).mono ?_)
    rintro e w2 ⟨rfl, hb2⟩
    go_wp2_with (fail)
    go_ret
    exact ⟨rfl, HB1.out.trans (hb2.mono HB1.out.size)⟩

end Go.Ev
