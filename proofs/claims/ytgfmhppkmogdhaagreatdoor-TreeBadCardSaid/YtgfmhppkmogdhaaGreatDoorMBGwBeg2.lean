/-
  A page that is not right is not made. pager.Make, with what its map of pages holds behind it. (make_any's text, printed again.) pager.Made, where one page was made. A device, free pages and a pager are made anew. A pager of a first transaction is made anew; law 11's Begin. A pager of a first transaction is made anew; law 11's Begin.
-/
import Derived.Test.YtgfmhppkmogdhaaGreatDoorMBGvAny2
import Derived.Test.YtgfmhppkmogdhaaGreatDoorMBGwMake
import Derived.Test.YtgfmhppkmogdhaaGreatDoorMBEvPg
import Derived.Test.YtgfmhppkmogdhaaGreatDoorMBGwDevTo
import Derived.Test.YtgfmhppkmogdhaaGreatDoorMBGwSeal
import Derived.Test.YtgfmhppkmogdhaaGreatDoorMBGvRise
import Derived.Carry
import Derived.Test.YtgfmhppkmogdhaaGreatDoorMBGvCurs
set_option linter.unusedVariables false
set_option linter.unusedSimpArgs false
set_option linter.unusedVariables false
set_option linter.unusedSimpArgs false
namespace Go.Ev
open Go.Proofs Go.RowKit

def ErrP (zs : List Value) (w : World) (e : Ending) (w' : World) : Prop := ∃ k : Int, k ≠ 0 ∧ e = .returned (.tuple (zs ++ [Value.int .i64 k]).toArray) ∧ Below w.heap.size w w'

set_option maxHeartbeats 2000000 in
set_option maxRecDepth 100000 in
theorem seal_bad (id kind next : Int) (body : Bytes) (w : World) (hi0 : 0 ≤ id) (hi1 : id ≤ 4294967295) (hb : body.length ≤ 9223372036854775807) (hbad : ¬ (1 ≤ kind ∧ kind ≤ 255 ∧ 0 ≤ next ∧ next ≤ 4294967295 ∧ body.length ≤ 240)) :
    Calls Tryz.prog 121 #[.int .i64 id, .agg #[.int .i64 kind, .int .i64 next, strV body]] w (ErrP [strV []] w) := by
  have b0 : (decide ((0 : Int) ≤ id) && decide (id ≤ 4294967295)) = true := by simp [hi0, hi1]
  have bx : Blk (w.alloc (.cells #[.int .i64 kind, .int .i64 next, strV body] 81)) w.heap.size 81 #[.int .i64 kind, .int .i64 next, strV body] := Blk.new _ _ _
  have x0 : (w.alloc (.cells #[.int .i64 kind, .int .i64 next, strV body] 81)).cell? ⟨w.heap.size, 0, none⟩ = some (.int .i64 kind) := bx.cell 0
  have x1 : (w.alloc (.cells #[.int .i64 kind, .int .i64 next, strV body] 81)).cell? ⟨w.heap.size, 1, none⟩ = some (.int .i64 next) := bx.cell 1
  have x2 : (w.alloc (.cells #[.int .i64 kind, .int .i64 next, strV body] 81)).cell? ⟨w.heap.size, 2, none⟩ = some (strV body) := bx.cell 2
  have HE : ∀ k : Int, k ≠ 0 → Hid (ErrP [strV []] w (.returned (.tuple #[strV [], .int .i64 k])) (w.alloc (.cells #[.int .i64 kind, .int .i64 next, strV body] 81))) := fun k hk => ⟨k, hk, rfl, (Below.refl _ _).alloc (Nat.le_refl _) _⟩
  have HE1 := HE 1 (by decide)
  have HE2 := HE 2 (by decide)
  obtain ⟨n, hn⟩ : ∃ n, body.length = n := ⟨_, rfl⟩
  clear bx HE
  by_cases c1 : 0 ≤ next ∧ next ≤ 4294967295
  · have b1 : (decide ((0 : Int) ≤ next) && decide (next ≤ 4294967295)) = true := by simp [c1.1, c1.2]
    by_cases c2 : 1 ≤ kind ∧ kind ≤ 255
    · have b2 : (decide ((1 : Int) ≤ kind) && decide (kind ≤ 255)) = true := by simp [c2.1, c2.2]
      have h240 : (240 : Int) < (n : Int) := by
        have : ¬ body.length ≤ 240 := fun h => hbad ⟨c2.1, c2.2, c1.1, c1.2, h⟩
        omega
      have HI1 := Lib.hid (in_any next 0 4294967295 (w.alloc (.cells #[.int .i64 kind, .int .i64 next, strV body] 81)))
      have HI2 := Lib.hid (in_any kind 1 255 (w.alloc (.cells #[.int .i64 kind, .int .i64 next, strV body] 81)))
      rw [b1] at HI1
      rw [b2] at HI2
      clear c1 c2 b1 b2 hbad
      go_enter Tryz.func121, Tryz.ntmps121
      go_wp2_with (fail)
      go_must (refine (in_any _ _ _ _).mono ?_)
      rintro e w1 ⟨rfl, rfl⟩
      rw [b0]
      go_wp2_with (fail)
      go_must (refine HI1.out.mono ?_)
      rintro e w1 ⟨rfl, rfl⟩
      go_wp2_with (fail)
      go_must (refine HI2.out.mono ?_)
      rintro e w1 ⟨rfl, rfl⟩
      go_wp2_with (fail)
      go_ret2
      exact HE2.out
    · have b2 : (decide ((1 : Int) ≤ kind) && decide (kind ≤ 255)) = false := by
        rw [Bool.and_eq_false_iff, decide_eq_false_iff_not, decide_eq_false_iff_not]
        omega
      have HI1 := Lib.hid (in_any next 0 4294967295 (w.alloc (.cells #[.int .i64 kind, .int .i64 next, strV body] 81)))
      have HI2 := Lib.hid (in_any kind 1 255 (w.alloc (.cells #[.int .i64 kind, .int .i64 next, strV body] 81)))
      rw [b1] at HI1
      rw [b2] at HI2
      clear c1 c2 b1 b2 hbad
      go_enter Tryz.func121, Tryz.ntmps121
      go_wp2_with (fail)
      go_must (refine (in_any _ _ _ _).mono ?_)
      rintro e w1 ⟨rfl, rfl⟩
      rw [b0]
      go_wp2_with (fail)
      go_must (refine HI1.out.mono ?_)
      rintro e w1 ⟨rfl, rfl⟩
      go_wp2_with (fail)
      go_must (refine HI2.out.mono ?_)
      rintro e w1 ⟨rfl, rfl⟩
      go_wp2_with (fail)
      go_ret2
      exact HE1.out
  · have b1 : (decide ((0 : Int) ≤ next) && decide (next ≤ 4294967295)) = false := by
      rw [Bool.and_eq_false_iff, decide_eq_false_iff_not, decide_eq_false_iff_not]
      omega
    have HI1 := Lib.hid (in_any next 0 4294967295 (w.alloc (.cells #[.int .i64 kind, .int .i64 next, strV body] 81)))
    rw [b1] at HI1
    clear c1 b1 hbad
    go_enter Tryz.func121, Tryz.ntmps121
    go_wp2_with (fail)
    go_must (refine (in_any _ _ _ _).mono ?_)
    rintro e w1 ⟨rfl, rfl⟩
    rw [b0]
    go_wp2_with (fail)
    go_must (refine HI1.out.mono ?_)
    rintro e w1 ⟨rfl, rfl⟩
    go_wp2_with (fail)
    go_ret2
    exact HE1.out

section
variable {p most cnt : Nat} {c : Pc} {M : Store}

set_option maxHeartbeats 2000000 in
set_option maxRecDepth 100000 in
theorem make_bad (x : Pg) (w : World) (h : PgOk w p c most M cnt) (hx : ¬ x.ok) (hb : x.body.length ≤ 9223372036854775807) :
    Calls Tryz.prog 34 #[ptrV p, .agg #[.int .i64 x.kind, .int .i64 x.next, strV x.body]] w (ErrP [.int .i64 0] w) := by
  obtain ⟨n, made, was, mc, wc, dc, spare, hA, hI, hP, rfl⟩ := h
  have hcount := hI.count
  have hsm := hA.dev.small
  obtain ⟨hsm1, hsm2⟩ := hsm
  have hsl : spare.length ≤ 800000 := by omega
  have hA1 := hA.alloc (.cells #[.int .i64 x.kind, .int .i64 x.next, strV x.body] 81)
  have hnx : 2 ≤ nextI n spare ∧ nextI n spare ≤ n := by
    cases spare with
    | nil => exact ⟨by have := hI.two; show 2 ≤ (n : Int); omega, Int.le_refl _⟩
    | cons y r => have := (hI.cover y).2 (.inr (List.mem_cons_self ..)); exact ⟨this.1, by show y ≤ n; omega⟩
  have hN := Lib.hid (next_any _ hA1.drew hsl)
  have hS := Lib.hid (fun W => seal_bad (nextI n spare) x.kind x.next x.body W (by omega) (by omega) hb hx)
  have bx : Blk (w.alloc (.cells #[.int .i64 x.kind, .int .i64 x.next, strV x.body] 81)) w.heap.size 81 #[.int .i64 x.kind, .int .i64 x.next, strV x.body] := Blk.new _ _ _
  have g0 : (w.alloc (.cells #[.int .i64 x.kind, .int .i64 x.next, strV x.body] 81)).cell? ⟨p, 0, none⟩ = some (ptrV c.d) := hA1.blk.cell 0
  clear hI hP hA hA1 hcount
  go_enter Tryz.func34, Tryz.ntmps34
  go_wp2_with (fail)
  go_must (refine (pgNone_any _ _ _ g0).mono ?_)
  rintro e w1 ⟨rfl, rfl⟩
  go_wp2_with (fail)
  have x0 : (w.alloc (.cells #[.int .i64 x.kind, .int .i64 x.next, strV x.body] 81)).cell? ⟨w.heap.size, 0, none⟩ = some (.int .i64 x.kind) := bx.cell 0
  have x1 : (w.alloc (.cells #[.int .i64 x.kind, .int .i64 x.next, strV x.body] 81)).cell? ⟨w.heap.size, 1, none⟩ = some (.int .i64 x.next) := bx.cell 1
  have x2 : (w.alloc (.cells #[.int .i64 x.kind, .int .i64 x.next, strV x.body] 81)).cell? ⟨w.heap.size, 2, none⟩ = some (strV x.body) := bx.cell 2
  have hbz : Below w.heap.size w (w.alloc (.cells #[.int .i64 x.kind, .int .i64 x.next, strV x.body] 81)).drew := ((Below.refl _ _).alloc (Nat.le_refl _) _).drew
  have HBZ := Lib.hid hbz
  clear hbz
  refine wp_region_any (by kernel_rfl) ?_
  change wpAny _ _ _ _ _ _ _ (World.drew _)
  try simp only [Act.put, lT, l0, lS]
  refine tA 0 ?_; try simp only [Act.put, lT, l0, lS]
  refine wpAny_ready (rs := [1, 2]) (by kernel_rfl) (by simp) (AllReady.cons (o := { dst := _, op := _, type := _, pos := _, after := _, guard := _ }) rfl (fun K hK => ?_) (AllReady.cons (o := { dst := _, op := _, type := _, pos := _, after := _, guard := _ }) rfl (fun K hK => ?_) AllReady.nil))
  · go_simp
    (go_must (refine hN.out.mono ?_); rintro e w2 ⟨rfl, hb2⟩)
    have y0 : w2.cell? ⟨w.heap.size, 0, none⟩ = some (.int .i64 x.kind) := (hb2.cell (p := ⟨w.heap.size, 0, none⟩) (by simp)).trans x0
    have y1 : w2.cell? ⟨w.heap.size, 1, none⟩ = some (.int .i64 x.next) := (hb2.cell (p := ⟨w.heap.size, 1, none⟩) (by simp)).trans x1
    have y2 : w2.cell? ⟨w.heap.size, 2, none⟩ = some (strV x.body) := (hb2.cell (p := ⟨w.heap.size, 2, none⟩) (by simp)).trans x2
    have HB2 := Lib.hid (HBZ.out.trans (hb2.mono HBZ.out.size))
    clear hb2
    go_simp
    refine hK _ _ ?_
    clear hK K
    refine rd 2 (by kernel_rfl) rfl (fun K hK => ?_); go_simp; refine hK _ _ ?_; clear hK K
    refine rd 3 (by kernel_rfl) rfl (fun K hK => ?_); go_simp
    (go_must (refine (hS.out w2).mono ?_); rintro e w3 ⟨k, hk, rfl, hb3⟩)
    simp only [List.cons_append, List.nil_append]
    have hk2 : (k != 0) = true := by simpa using hk
    have HE : Hid (ErrP [.int .i64 0] w (.returned (.tuple #[.int .i64 0, .int .i64 k])) w3) := ⟨k, hk, rfl, HB2.out.trans (hb3.mono HB2.out.size)⟩
    clear hb3 hk
    go_simp
    refine hK _ _ ?_
    clear hK K
    refine rd 4 (by kernel_rfl) rfl (fun K hK => ?_); go_simp; refine hK _ _ ?_; clear hK K
    try simp only [Act.put, lT, l0, lS]
    refine tA 5 ?_; try simp only [Act.put, lT, l0, lS]
    refine tA 6 ?_; try simp only [Act.put, lT, l0, lS]
    refine rd 7 (by kernel_rfl) rfl (fun K hK => ?_); go_simp; refine hK _ _ ?_; clear hK K
    refine rd 8 (by kernel_rfl) rfl (fun K hK => ?_); go_simp; refine hK _ _ ?_; clear hK K
    refine wpAny_done (by kernel_rfl) ?_ _
    go_wp2_with (fail)
    go_ret2
    exact HE.out
  · go_simp
    refine hK _ _ ?_
    clear hK K
    refine rd 1 (by kernel_rfl) rfl (fun K hK => ?_); go_simp
    (go_must (refine hN.out.mono ?_); rintro e w2 ⟨rfl, hb2⟩)
    have HB2 := Lib.hid (HBZ.out.trans (hb2.mono HBZ.out.size))
    clear hb2
    go_simp
    refine hK _ _ ?_
    clear hK K
    refine rd 3 (by kernel_rfl) rfl (fun K hK => ?_); go_simp
    (go_must (refine (hS.out w2).mono ?_); rintro e w3 ⟨k, hk, rfl, hb3⟩)
    simp only [List.cons_append, List.nil_append]
    have hk2 : (k != 0) = true := by simpa using hk
    have HE : Hid (ErrP [.int .i64 0] w (.returned (.tuple #[.int .i64 0, .int .i64 k])) w3) := ⟨k, hk, rfl, HB2.out.trans (hb3.mono HB2.out.size)⟩
    clear hb3 hk
    go_simp
    refine hK _ _ ?_
    clear hK K
    refine rd 4 (by kernel_rfl) rfl (fun K hK => ?_); go_simp; refine hK _ _ ?_; clear hK K
    try simp only [Act.put, lT, l0, lS]
    refine tA 5 ?_; try simp only [Act.put, lT, l0, lS]
    refine tA 6 ?_; try simp only [Act.put, lT, l0, lS]
    refine rd 7 (by kernel_rfl) rfl (fun K hK => ?_); go_simp; refine hK _ _ ?_; clear hK K
    refine rd 8 (by kernel_rfl) rfl (fun K hK => ?_); go_simp; refine hK _ _ ?_; clear hK K
    refine wpAny_done (by kernel_rfl) ?_ _
    go_wp2_with (fail)
    go_ret2
    exact HE.out
end
end Go.Ev

set_option linter.unusedVariables false
set_option linter.unusedSimpArgs false
namespace Go.Ev
open Go.Proofs Go.RowKit

def MakeMP (p : Nat) (c : Pc) (most : Nat) (M : Store) (cnt : Nat) (x : Pg) (w : World) (e : Ending) (w' : World) : Prop :=
  ∃ id c', e = .returned (.tuple #[.int .i64 id, .int .i64 0]) ∧ M id = none ∧ 2 ≤ id ∧ id ≤ 100000 ∧ PgOk w' p c' most (updS M id (some x)) (cnt + 1) ∧ PgK p c c' w w' ∧ ∃ made mc, Pages made M ∧ MapI w' c'.mb (putE made id (pgV x) mc) (clockE made id mc)

section
variable {p : Nat} {c : Pc} {most cnt : Nat} {M : Store}

set_option maxHeartbeats 2000000 in
set_option maxRecDepth 100000 in
theorem make_map (x : Pg) (w : World) (h : PgOk w p c most M cnt) (hx : x.ok) (hroom : cnt + 3 ≤ most) :
    Calls Tryz.prog 34 #[ptrV p, .agg #[.int .i64 x.kind, .int .i64 x.next, strV x.body]] w (MakeMP p c most M cnt x w) := by
  obtain ⟨n, made, was, mc, wc, dc, spare, hA, hI, hP, rfl⟩ := h
  obtain ⟨hx1, hx2, hx3, hx4, hx5⟩ := hx
  have hcount := hI.count
  have hsm := hA.dev.small
  obtain ⟨hsm1, hsm2⟩ := hsm
  have hnm : spare = [] → n + 1 ≤ most := fun e => by subst e; simp at hcount; omega
  have hsl : spare.length ≤ 800000 := by omega
  have hA1 := hA.alloc (.cells #[.int .i64 x.kind, .int .i64 x.next, strV x.body] 81)
  have hnx : 2 ≤ nextI n spare ∧ nextI n spare ≤ n := by
    cases spare with
    | nil => exact ⟨by have := hI.two; show 2 ≤ (n : Int); omega, Int.le_refl _⟩
    | cons y r => have := (hI.cover y).2 (.inr (List.mem_cons_self ..)); exact ⟨this.1, by show y ≤ n; omega⟩
  have hN := Lib.hid (next_any _ hA1.drew hsl)
  have hS := Lib.hid (fun W => seal_ok (nextI n spare) x.kind x.next ⟨x.body.toArray⟩ W (by omega) (by omega) hx3 hx4 hx1 hx2 (by simp only [ByteArray.size, List.size_toArray]; omega))
  have hT := Lib.hid (fun W (hb : Below (w.alloc (.cells #[.int .i64 x.kind, .int .i64 x.next, strV x.body] 81)).heap.size (w.alloc (.cells #[.int .i64 x.kind, .int .i64 x.next, strV x.body] 81)) W) hm => take_any W (hA1.below hb) hsl hm)
  have hE := Lib.hid (fun (w' : World) (c' : Pc) (spare' : List Int) => make_end (p := p) (most := most) (M := M) (mc := mc) (wc := wc) (dc := dc) (w := w') (c' := c') (spare' := spare') (x := x) hI hP)
  have bx : Blk (w.alloc (.cells #[.int .i64 x.kind, .int .i64 x.next, strV x.body] 81)) w.heap.size 81 #[.int .i64 x.kind, .int .i64 x.next, strV x.body] := Blk.new _ _ _
  have g0 : (w.alloc (.cells #[.int .i64 x.kind, .int .i64 x.next, strV x.body] 81)).cell? ⟨p, 0, none⟩ = some (ptrV c.d) := hA1.blk.cell 0
  have HI := Lib.hid hI
  have HP := Lib.hid hP
  have HA := Lib.hid hA
  have HA1 := Lib.hid hA1
  clear hI hP hA hA1 hcount
  go_enter Tryz.func34, Tryz.ntmps34
  go_wp2_with (fail)
  go_must (refine (pgNone_any _ _ _ g0).mono ?_)
  rintro e w1 ⟨rfl, rfl⟩
  go_wp2_with (fail)
  have x0 : (w.alloc (.cells #[.int .i64 x.kind, .int .i64 x.next, strV x.body] 81)).cell? ⟨w.heap.size, 0, none⟩ = some (.int .i64 x.kind) := bx.cell 0
  have x1 : (w.alloc (.cells #[.int .i64 x.kind, .int .i64 x.next, strV x.body] 81)).cell? ⟨w.heap.size, 1, none⟩ = some (.int .i64 x.next) := bx.cell 1
  have x2 : (w.alloc (.cells #[.int .i64 x.kind, .int .i64 x.next, strV x.body] 81)).cell? ⟨w.heap.size, 2, none⟩ = some (strV x.body) := bx.cell 2
  have hzW : w.heap.size + 1 = (w.alloc (.cells #[.int .i64 x.kind, .int .i64 x.next, strV x.body] 81)).heap.size := by simp
  refine wp_region_any (by kernel_rfl) ?_
  change wpAny _ _ _ _ _ _ _ (World.drew _)
  try simp only [Act.put, lT, l0, lS]
  refine tA 0 ?_; try simp only [Act.put, lT, l0, lS]
  refine wpAny_ready (rs := [1, 2]) (by kernel_rfl) (by simp) (AllReady.cons (o := { dst := _, op := _, type := _, pos := _, after := _, guard := _ }) rfl (fun K hK => ?_) (AllReady.cons (o := { dst := _, op := _, type := _, pos := _, after := _, guard := _ }) rfl (fun K hK => ?_) AllReady.nil))
  · go_simp
    (go_must (refine hN.out.mono ?_); rintro e w2 ⟨rfl, hb2⟩)
    have y0 : w2.cell? ⟨w.heap.size, 0, none⟩ = some (.int .i64 x.kind) := (hb2.cell (p := ⟨w.heap.size, 0, none⟩) (by simp)).trans x0
    have y1 : w2.cell? ⟨w.heap.size, 1, none⟩ = some (.int .i64 x.next) := (hb2.cell (p := ⟨w.heap.size, 1, none⟩) (by simp)).trans x1
    have y2 : w2.cell? ⟨w.heap.size, 2, none⟩ = some (strV x.body) := (hb2.cell (p := ⟨w.heap.size, 2, none⟩) (by simp)).trans x2
    go_simp
    refine hK _ _ ?_
    clear hK K
    refine rd 2 (by kernel_rfl) rfl (fun K hK => ?_); go_simp; refine hK _ _ ?_; clear hK K
    refine rd 3 (by kernel_rfl) rfl (fun K hK => ?_); go_simp
    (go_must (refine (hS.out w2).mono ?_); rintro e w3 ⟨⟨t, rfl⟩, hb3⟩)
    go_simp
    refine hK _ _ ?_
    clear hK K
    refine rd 4 (by kernel_rfl) rfl (fun K hK => ?_); go_simp; refine hK _ _ ?_; clear hK K
    try simp only [Act.put, lT, l0, lS]
    refine tA 5 ?_; try simp only [Act.put, lT, l0, lS]
    refine tA 6 ?_; try simp only [Act.put, lT, l0, lS]
    refine rd 7 (by kernel_rfl) rfl (fun K hK => ?_); go_simp; refine hK _ _ ?_; clear hK K
    refine rd 8 (by kernel_rfl) rfl (fun K hK => ?_); go_simp; refine hK _ _ ?_; clear hK K
    refine wpAny_done (by kernel_rfl) ?_ _
    have hbT := (hb2.trans (hb3.mono hb2.size))
    go_wp2_with (fail)
    have hbT' : Below (w.alloc (.cells #[.int .i64 x.kind, .int .i64 x.next, strV x.body] 81)).heap.size (w.alloc (.cells #[.int .i64 x.kind, .int .i64 x.next, strV x.body] 81)) w3 := ⟨hbT.os, hbT.tape, hbT.output, hbT.size, hbT.block⟩
    have bx3 := bx.below' hbT'
    have hlt3 := hbT'.size
    have hAt3 := HA1.out.below hbT'
    have hroom3 : spare = [] → n + 1 ≤ most := hnm
    go_must (refine (hT.out w3 hbT' hnm).mono ?_)
    rintro e w4 ⟨c', spare', rfl, hA4, hperm, hK4, hmb, hwb⟩
    have hEE := hE.out w4 c' spare' hA4 hperm
    obtain ⟨q1, q2, q3, q4, q5⟩ := hEE
    have hlt4 := hK4.keeps.size
    have hbig : w.heap.size < w3.heap.size := by simp at hlt3; omega
    have hnS : ¬ c.S p w.heap.size := fun hh => by have := HA.out.lt _ hh; omega
    have bx4 := bx3.keeps hK4.keeps hnS
    have gw7 : w4.cell? ⟨p, 7, none⟩ = some (.map (some c'.wb)) := hA4.blk.cell 7
    have hdl := fun ty => run_delete_I hA4.wwas (P := Tryz.prog) Tryz.underlying151 Tryz.underlying3 ty (nextI n spare)
    have hA5 := hA4.turnW (delE was (nextI n spare)) wc
    have gw5 : (turn w4 c'.wb (delE was (nextI n spare)) wc).cell? ⟨p, 5, none⟩ = some (.map (some c'.mb)) := hA5.blk.cell 5
    have y0 : (turn w4 c'.wb (delE was (nextI n spare)) wc).cell? ⟨w.heap.size, 0, none⟩ = some (.int .i64 x.kind) := (hA4.wwas.cell_turn _ _ _).trans (bx4.cell 0)
    have y1 : (turn w4 c'.wb (delE was (nextI n spare)) wc).cell? ⟨w.heap.size, 1, none⟩ = some (.int .i64 x.next) := (hA4.wwas.cell_turn _ _ _).trans (bx4.cell 1)
    have y2 : (turn w4 c'.wb (delE was (nextI n spare)) wc).cell? ⟨w.heap.size, 2, none⟩ = some (strV x.body) := (hA4.wwas.cell_turn _ _ _).trans (bx4.cell 2)
    have hup := run_update_I hA5.drew.mad (P := Tryz.prog) Tryz.underlying166 Tryz.underlying3 (nextI n spare) (pgV x)
    unfold pgV strB at hup
    have HEnd : Hid (MakeMP p c most M made.length x w (.returned (.tuple #[.int .i64 (nextI n spare), .int .i64 0])) (turn (turn w4 c'.wb (delE was (nextI n spare)) wc).drew c'.mb (putE made (nextI n spare) (pgV x) mc) (clockE made (nextI n spare) mc))) := by
      have hk0 : PgK p c c w w3 := ⟨Keeps.of_below ((Below.refl _ w).alloc (Nat.le_refl _) _ |>.trans (hbT'.mono (by simp))), fun _ h => .inl h, rfl, rfl, rfl⟩
      have hk5 : PgK p c' c' w4 (turn w4 c'.wb (delE was (nextI n spare)) wc) := PgK.turn (.inr rfl) _ _
      have hk6 : PgK p c' c' (turn w4 c'.wb (delE was (nextI n spare)) wc) (turn w4 c'.wb (delE was (nextI n spare)) wc).drew := ⟨(Keeps.refl _ _).drew, fun _ h => .inl h, rfl, rfl, rfl⟩
      have hk7 : PgK p c' c' (turn w4 c'.wb (delE was (nextI n spare)) wc).drew (turn (turn w4 c'.wb (delE was (nextI n spare)) wc).drew c'.mb (putE made (nextI n spare) (pgV x) mc) (clockE made (nextI n spare) mc)) := PgK.turn (.inl rfl) _ _
      exact ⟨nextI n spare, c', rfl, q4, q2, by omega, q5.below (Below.refl _ _).drew, (((hk0.trans hK4).trans hk5).trans hk6).trans hk7, made, mc, HP.out, hA5.drew.mad.turned _ _⟩
    unfold pgV strB at HEnd
    clear hmb hwb hA4 hA5 hK4 q1 q4 q5 hT hE hS hN hAt3 hbT hbT' hroom3 HA1 HA HI HP
    go_wp2_with (fail)
    refine wp_region_any (by kernel_rfl) ?_
    change wpAny _ _ _ _ _ _ _ (World.drew _)
    try simp only [Act.put, lT, l0, lS]
    refine tA 0 ?_; try simp only [Act.put, lT, l0, lS]
    refine tA 1 ?_; try simp only [Act.put, lT, l0, lS]
    refine tA 2 ?_; try simp only [Act.put, lT, l0, lS]
    refine tA 4 ?_; try simp only [Act.put, lT, l0, lS]
    refine wpAny_ready (rs := [3, 5]) (by kernel_rfl) (by simp) (AllReady.cons (o := { dst := _, op := _, type := _, pos := _, after := _, guard := _ }) rfl (fun K hK => ?_) (AllReady.cons (o := { dst := _, op := _, type := _, pos := _, after := _, guard := _ }) rfl (fun K hK => ?_) AllReady.nil))
    · go_simp
      refine hK _ _ ?_
      clear hK K
      refine rd 5 (by kernel_rfl) rfl (fun K hK => ?_); go_simp; refine hK _ _ ?_; clear hK K
      refine rd 6 (by kernel_rfl) rfl (fun K hK => ?_); go_simp; refine hK _ _ ?_; clear hK K
      refine wpAny_done (by kernel_rfl) ?_ _
      go_wp2
      go_ret2
      exact HEnd.out
    · go_simp
      refine hK _ _ ?_
      clear hK K
      refine rd 3 (by kernel_rfl) rfl (fun K hK => ?_); go_simp; refine hK _ _ ?_; clear hK K
      refine rd 6 (by kernel_rfl) rfl (fun K hK => ?_); go_simp; refine hK _ _ ?_; clear hK K
      refine wpAny_done (by kernel_rfl) ?_ _
      go_wp2
      go_ret2
      exact HEnd.out
  · go_simp
    refine hK _ _ ?_
    clear hK K
    refine rd 1 (by kernel_rfl) rfl (fun K hK => ?_); go_simp
    (go_must (refine hN.out.mono ?_); rintro e w2 ⟨rfl, hb2⟩)
    go_simp
    refine hK _ _ ?_
    clear hK K
    refine rd 3 (by kernel_rfl) rfl (fun K hK => ?_); go_simp
    (go_must (refine (hS.out w2).mono ?_); rintro e w3 ⟨⟨t, rfl⟩, hb3⟩)
    go_simp
    refine hK _ _ ?_
    clear hK K
    refine rd 4 (by kernel_rfl) rfl (fun K hK => ?_); go_simp; refine hK _ _ ?_; clear hK K
    try simp only [Act.put, lT, l0, lS]
    refine tA 5 ?_; try simp only [Act.put, lT, l0, lS]
    refine tA 6 ?_; try simp only [Act.put, lT, l0, lS]
    refine rd 7 (by kernel_rfl) rfl (fun K hK => ?_); go_simp; refine hK _ _ ?_; clear hK K
    refine rd 8 (by kernel_rfl) rfl (fun K hK => ?_); go_simp; refine hK _ _ ?_; clear hK K
    refine wpAny_done (by kernel_rfl) ?_ _
    have hbT := (hb2.trans (hb3.mono hb2.size))
    go_wp2_with (fail)
    have hbT' : Below (w.alloc (.cells #[.int .i64 x.kind, .int .i64 x.next, strV x.body] 81)).heap.size (w.alloc (.cells #[.int .i64 x.kind, .int .i64 x.next, strV x.body] 81)) w3 := ⟨hbT.os, hbT.tape, hbT.output, hbT.size, hbT.block⟩
    have bx3 := bx.below' hbT'
    have hlt3 := hbT'.size
    have hAt3 := HA1.out.below hbT'
    have hroom3 : spare = [] → n + 1 ≤ most := hnm
    go_must (refine (hT.out w3 hbT' hnm).mono ?_)
    rintro e w4 ⟨c', spare', rfl, hA4, hperm, hK4, hmb, hwb⟩
    have hEE := hE.out w4 c' spare' hA4 hperm
    obtain ⟨q1, q2, q3, q4, q5⟩ := hEE
    have hlt4 := hK4.keeps.size
    have hbig : w.heap.size < w3.heap.size := by simp at hlt3; omega
    have hnS : ¬ c.S p w.heap.size := fun hh => by have := HA.out.lt _ hh; omega
    have bx4 := bx3.keeps hK4.keeps hnS
    have gw7 : w4.cell? ⟨p, 7, none⟩ = some (.map (some c'.wb)) := hA4.blk.cell 7
    have hdl := fun ty => run_delete_I hA4.wwas (P := Tryz.prog) Tryz.underlying151 Tryz.underlying3 ty (nextI n spare)
    have hA5 := hA4.turnW (delE was (nextI n spare)) wc
    have gw5 : (turn w4 c'.wb (delE was (nextI n spare)) wc).cell? ⟨p, 5, none⟩ = some (.map (some c'.mb)) := hA5.blk.cell 5
    have y0 : (turn w4 c'.wb (delE was (nextI n spare)) wc).cell? ⟨w.heap.size, 0, none⟩ = some (.int .i64 x.kind) := (hA4.wwas.cell_turn _ _ _).trans (bx4.cell 0)
    have y1 : (turn w4 c'.wb (delE was (nextI n spare)) wc).cell? ⟨w.heap.size, 1, none⟩ = some (.int .i64 x.next) := (hA4.wwas.cell_turn _ _ _).trans (bx4.cell 1)
    have y2 : (turn w4 c'.wb (delE was (nextI n spare)) wc).cell? ⟨w.heap.size, 2, none⟩ = some (strV x.body) := (hA4.wwas.cell_turn _ _ _).trans (bx4.cell 2)
    have hup := run_update_I hA5.drew.mad (P := Tryz.prog) Tryz.underlying166 Tryz.underlying3 (nextI n spare) (pgV x)
    unfold pgV strB at hup
    have HEnd : Hid (MakeMP p c most M made.length x w (.returned (.tuple #[.int .i64 (nextI n spare), .int .i64 0])) (turn (turn w4 c'.wb (delE was (nextI n spare)) wc).drew c'.mb (putE made (nextI n spare) (pgV x) mc) (clockE made (nextI n spare) mc))) := by
      have hk0 : PgK p c c w w3 := ⟨Keeps.of_below ((Below.refl _ w).alloc (Nat.le_refl _) _ |>.trans (hbT'.mono (by simp))), fun _ h => .inl h, rfl, rfl, rfl⟩
      have hk5 : PgK p c' c' w4 (turn w4 c'.wb (delE was (nextI n spare)) wc) := PgK.turn (.inr rfl) _ _
      have hk6 : PgK p c' c' (turn w4 c'.wb (delE was (nextI n spare)) wc) (turn w4 c'.wb (delE was (nextI n spare)) wc).drew := ⟨(Keeps.refl _ _).drew, fun _ h => .inl h, rfl, rfl, rfl⟩
      have hk7 : PgK p c' c' (turn w4 c'.wb (delE was (nextI n spare)) wc).drew (turn (turn w4 c'.wb (delE was (nextI n spare)) wc).drew c'.mb (putE made (nextI n spare) (pgV x) mc) (clockE made (nextI n spare) mc)) := PgK.turn (.inl rfl) _ _
      exact ⟨nextI n spare, c', rfl, q4, q2, by omega, q5.below (Below.refl _ _).drew, (((hk0.trans hK4).trans hk5).trans hk6).trans hk7, made, mc, HP.out, hA5.drew.mad.turned _ _⟩
    unfold pgV strB at HEnd
    clear hmb hwb hA4 hA5 hK4 q1 q4 q5 hT hE hS hN hAt3 hbT hbT' hroom3 HA1 HA HI HP
    go_wp2_with (fail)
    refine wp_region_any (by kernel_rfl) ?_
    change wpAny _ _ _ _ _ _ _ (World.drew _)
    try simp only [Act.put, lT, l0, lS]
    refine tA 0 ?_; try simp only [Act.put, lT, l0, lS]
    refine tA 1 ?_; try simp only [Act.put, lT, l0, lS]
    refine tA 2 ?_; try simp only [Act.put, lT, l0, lS]
    refine tA 4 ?_; try simp only [Act.put, lT, l0, lS]
    refine wpAny_ready (rs := [3, 5]) (by kernel_rfl) (by simp) (AllReady.cons (o := { dst := _, op := _, type := _, pos := _, after := _, guard := _ }) rfl (fun K hK => ?_) (AllReady.cons (o := { dst := _, op := _, type := _, pos := _, after := _, guard := _ }) rfl (fun K hK => ?_) AllReady.nil))
    · go_simp
      refine hK _ _ ?_
      clear hK K
      refine rd 5 (by kernel_rfl) rfl (fun K hK => ?_); go_simp; refine hK _ _ ?_; clear hK K
      refine rd 6 (by kernel_rfl) rfl (fun K hK => ?_); go_simp; refine hK _ _ ?_; clear hK K
      refine wpAny_done (by kernel_rfl) ?_ _
      go_wp2
      go_ret2
      exact HEnd.out
    · go_simp
      refine hK _ _ ?_
      clear hK K
      refine rd 3 (by kernel_rfl) rfl (fun K hK => ?_); go_simp; refine hK _ _ ?_; clear hK K
      refine rd 6 (by kernel_rfl) rfl (fun K hK => ?_); go_simp; refine hK _ _ ?_; clear hK K
      refine wpAny_done (by kernel_rfl) ?_ _
      go_wp2
      go_ret2
      exact HEnd.out
end
end Go.Ev

set_option linter.unusedVariables false
set_option linter.unusedSimpArgs false
namespace Go.Ev
open Go.Proofs Go.RowKit Go.Maps Go.Sort Go.Shelf

theorem sortsK (m : Nat) : AnyZI.SortsIn Tryz.prog Tryz.sortedZ_ren Fence.wide m :=
  ⟨fun blk off cap ss W hH hblk hsz => callsIn_wide.2 (AnyM.slices_Sort_int Tryz.sortZ blk off cap ss W hH hblk hsz),
   fun p cap W => callsIn_wide.2 (AnyM.slices_Sort_int_none Tryz.sortZ p cap W)⟩

def anyRK : Value → Option (DataW Unit × List MemPlace) := fun _ => some (.lit (.bool true), [])

/-- A map of one page reads as a datum of one key. -/
theorem ownedOne {w : World} {b : Nat} {n : Int} {v : Value} {s c : Nat} (h : MapI w b [(n, v, s)] c) (hs : s < c) (h1 : -9223372036854775808 ≤ n) (h2 : n ≤ 9223372036854775807) :
    ∃ D : DataW Unit, w.ownsMap Tryz.prog 3 anyRK b 1 D ∧ Maps.size D = 1 := by
  have hw : (Lit.int .i64 n).wf = true := by
    simp only [Lit.wf, IntKind.min, IntKind.max, IntKind.signed, IntKind.bits]
    simp
    omega
  have hrd : WideElems.rd (H := Unit) Tryz.prog 3 anyRK (entA (n, v, s)) = some (.int .i64 n, .lit (.bool true)) := by
    unfold WideElems.rd entA
    rw [Maps.keyOf_int_mk Tryz.underlying3 hw]
    rfl
  refine ⟨.map (([entA (n, v, s)].map (WideElems.rg Tryz.prog 3 anyRK)).foldr DataW.insert []), ⟨#[entA (n, v, s)], c, h, ⟨?_, ?_, fun x hx => ?_⟩, by simp, rfl⟩, ?_⟩
  · simp [maxLen]
  · refine ⟨fun x hx => ?_, by simp, by simp⟩
    simp only [List.mem_singleton] at hx
    subst hx
    exact hs
  · simp only [List.mem_singleton] at hx
    subst hx
    exact ⟨_, hrd⟩
  · show ((([entA (n, v, s)].map (WideElems.rg (H := Unit) Tryz.prog 3 anyRK)).foldr DataW.insert [])).length = 1
    rw [(WideShapes.sorted_perm _).length_eq]
    rfl

section
variable {p most cnt : Nat} {c : Pc} {M : Store}

set_option maxHeartbeats 2000000 in
set_option maxRecDepth 100000 in
theorem made_one (n : Int) (v : Value) (s cl : Nat) (w : World) (h : PgOk w p c most M cnt) (hm : MapI w c.mb [(n, v, s)] cl) (hs : s < cl) (h1 : -9223372036854775808 ≤ n) (h2 : n ≤ 9223372036854775807) :
    Calls Tryz.prog 35 #[ptrV p] w fun e w' => ∃ A cc, e = .returned (.slice A 1 cc) ∧ Below w.heap.size w w' := by
  obtain ⟨D, hown, hsz⟩ := ownedOne hm hs h1 h2
  obtain ⟨n0, made, was, mc, wc, dc, spare, hA, _, _, _⟩ := h
  have g0 : w.cell? ⟨p, 0, none⟩ = some (ptrV c.d) := hA.blk.cell 0
  have g5 : w.cell? ⟨p, 5, none⟩ = some (.map (some c.mb)) := hA.blk.cell 5
  have hbl := hown.lt
  have hseq : SeqGives Fence.wide 2 Tryz.prog 190 #[.pointer (some ⟨w.heap.size, 0, none⟩)] encZ (fun ss => ss.Perm (intKeys D)) (Maps.size D) (w.alloc (.cells #[.map (some c.mb)] 166)) :=
    AnyZI.keys_gives (ρ := Tryz.keysA_ren) { Tryz.keysA with } Fence.wide _ trivial rfl (by omega) w.heap.size c.mb 1 D _ (by simp) (by simp) (by
      obtain ⟨es, clock, hb, Ft, hs, hD⟩ := hown
      exact ⟨es, clock, (Below.heap_alloc _ _ c.mb hbl).trans hb, Ft, hs, hD⟩)
  have cK : ∀ mb W, CallsIn Fence.wide 5 Tryz.prog 125 #[.map mb] W fun e w' => e = .returned (.func (.func 190) #[] #[.pointer (some ⟨W.heap.size, 0, none⟩)]) ∧ w' = W.alloc (.cells #[.map mb] 166) := fun mb W => AnyZI.keys_in Tryz.keysA Fence.wide 5 trivial rfl mb W
  have cS := AnyZI.sorted_in Tryz.sortedZ Fence.wide 5 trivial trivial trivial trivial rfl (by omega) (sortsK _) (enters_of Tryz.func168 (by kernel_rfl) rfl) 190 #[.pointer (some ⟨w.heap.size, 0, none⟩)] trivial (enters_of Tryz.func190 (by kernel_rfl) rfl) _ _ (by rw [hsz]; decide) (by rw [hsz]; decide) _ hseq
  change CallsIn _ _ Tryz.prog 124 _ _ _ at cS
  have hlen : (intKeys D).length = 1 := by
    have : (intKeys D).length = Maps.size D := by
      cases D <;> simp [intKeys, Maps.size]
    rw [this, hsz]
  have HK := Lib.hid (fun mb W => callsIn_wide.1 (cK mb W))
  have HS := Lib.hid (callsIn_wide.1 cS)
  have HLen := Lib.hid hlen
  clear hA hown hseq cK cS hbl hsz hm hlen
  go_enter Tryz.func35, Tryz.ntmps35
  go_wp2_with (fail)
  go_must (refine (pgNone_any _ _ _ g0).mono ?_)
  rintro e w1 ⟨rfl, rfl⟩
  go_wp2_with (fail)
  go_must (refine (HK.out _ _).mono ?_)
  rintro e w2 ⟨rfl, rfl⟩
  go_wp2_with (fail)
  go_must (refine HS.out.mono ?_)
  rintro e w3 ⟨v3, ss, rfl, hS, hrow, hnil, hb⟩
  have hss : ss.length = 1 := by rw [hS.length_eq]; exact HLen.out
  rw [hss] at hrow
  obtain ⟨A, cc, rfl, -⟩ := Sl.of_own hrow
  have HB : Hid (Below w.heap.size w w3) := ((Below.refl _ w).alloc (Nat.le_refl _) _).trans (hb.mono (by simp))
  clear hrow hnil hb hS
  go_wp2_with (fail)
  go_ret
  exact ⟨_, _, rfl, HB.out⟩
end
end Go.Ev

set_option linter.unusedVariables false
set_option linter.unusedSimpArgs false
namespace Go.Ev
open Go.Proofs Go.RowKit

theorem devNew_any (most : Nat) (w : World) (h1 : 1 ≤ most) (h2 : most ≤ 3000) :
    Calls Tryz.prog 109 #[.int .i64 most] w fun e w' => e = .returned (.tuple #[ptrV w.heap.size, .int .i64 0]) ∧
      w.alloc (.cells #[.int .i64 most, .bool true, .bool false, .int .i64 0, .slice none 0 0, .slice none 0 0, .chan none] 260) = w' := by
  have g1 : ¬ (most : Int) < 1 := by omega
  have g2 : ¬ (3000 : Int) < (most : Int) := by omega
  go_enter Tryz.func109, Tryz.ntmps109
  go_wp2
  go_ret2
  exact ⟨rfl, rfl⟩

theorem DevAt.new (most : Nat) (w : World) (h2 : most ≤ 3000) :
    DevAt (w.alloc (.cells #[.int .i64 most, .bool true, .bool false, .int .i64 0, .slice none 0 0, .slice none 0 0, .chan none] 260)) w.heap.size most 0 (.slice none 0 0) (.slice none 0 0) :=
  ⟨Blk.new _ _ _, ⟨_, World.ownsRow_nil _ _ _ _⟩, ⟨_, World.ownsRow_nil _ _ _ _⟩, fun k h => (by cases h), ⟨by omega, by omega⟩⟩

theorem refNew_any (most : Nat) (w : World) (h1 : 1 ≤ most) (h2 : most ≤ 3000) :
    Calls Tryz.prog 110 #[.int .i64 most] w fun e w' => e = .returned (.tuple #[ptrV w.heap.size, .int .i64 0]) ∧ w.alloc (.cells (refDev most) 263) = w' := by
  have g1 : ¬ (most : Int) < 1 := by omega
  have g2 : ¬ (3000 : Int) < (most : Int) := by omega
  go_enter Tryz.func110, Tryz.ntmps110
  go_wp2
  go_ret2
  exact ⟨rfl, rfl⟩

theorem freePut_any (b : Nat) (w : World) :
    Calls Tryz.prog 222 #[ptrV b, .slice none 0 0] w fun e w' => e = .returned (.tuple #[]) ∧ w' = w := by
  go_enter Tryz.func222, Tryz.ntmps222
  go_wp2
  go_loopg [10] 0 (fun gk s10 wr => s10 = .int .i64 0 ∧ wr = w)
  case atStart => exact ⟨rfl, rfl⟩
  case round =>
    obtain ⟨rfl, rfl⟩ := hrel
    go_wp2_with (fail)
    refine bodyPost_end (results_none rfl _ _ _) rfl ?_
    exact ⟨rfl, rfl⟩

theorem freeNew_any (w : World) :
    Calls Tryz.prog 113 #[.slice none 0 0] w fun e w' => e = .returned (ptrV w.heap.size) ∧ w.alloc (.cells #[.slice none 0 0, .slice none 0 0, .map none] 274) = w' := by
  have hB : ∀ W : World, Calls Tryz.prog 173 #[ptrV w.heap.size, .slice none 0 0] W fun e w' => e = .returned (.tuple #[]) ∧ w' = W := by
    intro W
    go_enter Tryz.func173, Tryz.ntmps173
    go_wp2_with (fail)
    go_must (refine (freePut_any _ _).mono ?_)
    rintro e w1 ⟨rfl, rfl⟩
    go_wp2
    refine bodyPost_end (results_none rfl _ _ _) rfl ?_
    exact ⟨rfl, rfl⟩
  go_enter Tryz.func113, Tryz.ntmps113
  go_wp2_with (fail)
  go_must (refine (hB _).mono ?_)
  rintro e w1 ⟨rfl, rfl⟩
  go_wp2
  go_ret
  exact ⟨rfl, rfl⟩
end Go.Ev

set_option linter.unusedVariables false
set_option linter.unusedSimpArgs false
namespace Go.Ev
open Go.Proofs Go.RowKit

set_option maxRecDepth 100000 in
theorem cloneNil_any (w : World) : Calls Tryz.prog 224 #[.slice none 0 0] w fun e w' => e = .returned (.slice none 0 0) ∧ w = w' := by
  have q22 : ∀ (w : World) (a : Option Addr) (n c n' c' : Nat), (binOp .eql 89 (.slice a n c) (.slice none n' c')).run Tryz.prog w = .ok (.bool a.isNone) w := fun w a n c n' c' => Lib.run_eql_slice_nil w _ 3 a n c n' c' Tryz.underlying89
  go_enter Tryz.func224, Tryz.ntmps224
  go_wp2
  go_ret
  exact ⟨rfl, rfl⟩

theorem heapInit_nil (b : Nat) (w : World) (h : w.cell? ⟨b, 0, none⟩ = some (.slice none 0 0)) :
    Calls Tryz.prog 225 #[.iface 329 (.pointer (some ⟨b, 0, none⟩))] w fun e w' => e = .returned (.tuple #[]) ∧ w = w' := by
  have hm := m_len b _ w h
  go_enter Tryz.func225, Tryz.ntmps225
  go_wp2_with (fail)
  go_must (refine (lenN_any _ _ _ _).mono ?_)
  rintro e w2 ⟨rfl, rfl⟩
  go_wp2_with (fail)
  go_loopg [3] 0 (fun gk s3 wr => s3 = .int .i64 (-1) ∧ wr = w2)
  case atStart => exact ⟨rfl, rfl⟩
  case round =>
    obtain ⟨rfl, rfl⟩ := hrel
    go_wp2_with (fail)
    refine bodyPost_end (results_none rfl _ _ _) rfl ?_
    exact ⟨rfl, rfl⟩

theorem pileNew_any (w : World) :
    Calls Tryz.prog 177 #[.slice none 0 0] w fun e w' => e = .returned (ptrV w.heap.size) ∧ w.alloc (.cells #[.slice none 0 0] 270) = w' := by
  have hb : Blk (w.alloc (.cells #[.slice none 0 0] 270)) w.heap.size 270 #[.slice none 0 0] := Blk.new _ _ _
  have hI := Lib.hid (heapInit_nil w.heap.size _ (hb.cell 0))
  clear hb
  go_enter Tryz.func177, Tryz.ntmps177
  go_wp2_with (fail)
  go_must (refine (cloneNil_any _).mono ?_)
  rintro e w1 ⟨rfl, rfl⟩
  go_wp2_with (fail)
  go_must (refine hI.out.mono ?_)
  rintro e w2 ⟨rfl, rfl⟩
  go_wp2
  go_ret
  exact ⟨rfl, rfl⟩

/-- A pager without its maps and its pile. -/
def pg0 (d f : Nat) : Array Value := #[ptrV d, ptrV f, .int .i64 2, .int .i64 2, .int .i64 1, .map none, .map none, .map none, .pointer none]

def ClearP (p d f : Nat) (w : World) (e : Ending) (w' : World) : Prop :=
  e = .returned (.tuple #[]) ∧ ∃ mb db wb sb, Blk w' p 169 #[ptrV d, ptrV f, .int .i64 2, .int .i64 2, .int .i64 1, .map (some mb), .map (some db), .map (some wb), ptrV sb] ∧ MapI w' mb [] 0 ∧ MapI w' db [] 0 ∧ MapI w' wb [] 0 ∧ Pl w' sb (.slice none 0 0) [] ∧
    w.heap.size ≤ mb ∧ mb < db ∧ db < wb ∧ wb < sb ∧ Keeps (fun k => k = p) w w'

theorem MapI.newM (w : World) : MapI (w.alloc (.map #[] 0)) w.heap.size [] 0 := heap_alloc_new w _

theorem MapI.allocM {w : World} {b c : Nat} {l : List Ent} (h : MapI w b l c) (o : Obj) : MapI (w.alloc o) b l c := h.keeps (S := fun _ => False) (Keeps.of_below ((Below.refl _ w).alloc (Nat.le_refl _) o)) fun h => h
theorem MapI.setM {w : World} {b c : Nat} {l : List Ent} (h : MapI w b l c) {q : Addr} (hq : b ≠ q.block) (u : Value) : MapI (w.setCell q u) b l c := h.keeps (S := fun k => k = q.block) ((Keeps.refl (fun k => k = q.block) w).setCell (fun _ => rfl) u) hq

theorem pl_new (w : World) : Pl (w.alloc (.cells #[.slice none 0 0] 270)) w.heap.size (.slice none 0 0) [] := by
  have hb : Blk (w.alloc (.cells #[.slice none 0 0] 270)) w.heap.size 270 #[.slice none 0 0] := Blk.new _ _ _
  exact ⟨hb.cell 0, hb.frozen 0, hb.lt, World.ownsRow_nil _ _ _ _, by simp [Value.ownBlock]⟩

theorem clear_end {p d f : Nat} {w w1 w2 w3 w4 : World} (h : Blk w p 169 (pg0 d f)) (e1 : w.alloc (.map #[] 0) = w1) (e2 : w1.alloc (.map #[] 0) = w2) (e3 : w2.alloc (.map #[] 0) = w3) (e4 : w3.alloc (.cells #[.slice none 0 0] 270) = w4) :
    ClearP p d f w (.returned (.tuple #[])) ((((w4.setCell ⟨p, 5, none⟩ (.map (some w.heap.size))).setCell ⟨p, 6, none⟩ (.map (some w1.heap.size))).setCell ⟨p, 7, none⟩ (.map (some w2.heap.size))).setCell ⟨p, 8, none⟩ (ptrV w3.heap.size)) := by
  have hp := h.lt
  have z1 : w1.heap.size = w.heap.size + 1 := by subst e1; simp
  have z2 : w2.heap.size = w.heap.size + 2 := by subst e2; simp [z1]
  have z3 : w3.heap.size = w.heap.size + 3 := by subst e3; simp [z2]
  have hb : Blk w4 p 169 (pg0 d f) := by subst e4 e3 e2 e1; exact (((h.alloc _).alloc _).alloc _).alloc _
  have K : Keeps (fun k => k = p) w4 ((((w4.setCell ⟨p, 5, none⟩ (.map (some w.heap.size))).setCell ⟨p, 6, none⟩ (.map (some w1.heap.size))).setCell ⟨p, 7, none⟩ (.map (some w2.heap.size))).setCell ⟨p, 8, none⟩ (ptrV w3.heap.size)) :=
    ((((Keeps.refl (fun k => k = p) w4).setCell (p := ⟨p, 5, none⟩) (fun _ => rfl) _).setCell (p := ⟨p, 6, none⟩) (fun _ => rfl) _).setCell (p := ⟨p, 7, none⟩) (fun _ => rfl) _).setCell (p := ⟨p, 8, none⟩) (fun _ => rfl) _
  have K0 : Keeps (fun k => k = p) w w4 := by subst e4 e3 e2 e1; exact ((((Keeps.refl _ w).alloc _).alloc _).alloc _).alloc _
  have m1 : MapI w4 w.heap.size [] 0 := by subst e4 e3 e2 e1; exact (((MapI.newM w).allocM _).allocM _).allocM _
  have m2 : MapI w4 w1.heap.size [] 0 := by subst e4 e3 e2; exact ((MapI.newM w1).allocM _).allocM _
  have m3 : MapI w4 w2.heap.size [] 0 := by subst e4 e3; exact (MapI.newM w2).allocM _
  have m4 : Pl w4 w3.heap.size (.slice none 0 0) [] := by subst e4; exact pl_new w3
  refine ⟨rfl, w.heap.size, w1.heap.size, w2.heap.size, w3.heap.size, ?_, m1.keeps K (by omega), m2.keeps K (by omega), m3.keeps K (by omega), m4.keeps K (by omega) (fun k e => by cases e), by omega, by omega, by omega, by omega, K0.trans K fun _ _ e => e⟩
  exact (((hb.set 5 _).set 6 _).set 7 _).set 8 _

set_option maxHeartbeats 1000000 in
theorem clear_any (p d f : Nat) (w : World) (h : Blk w p 169 (pg0 d f)) : Calls Tryz.prog 119 #[ptrV p] w (ClearP p d f w) := by
  have hp := h.lt
  obtain ⟨w1, e1⟩ : ∃ w1, w.alloc (.map #[] 0) = w1 := ⟨_, rfl⟩
  obtain ⟨w2, e2⟩ : ∃ w2, w1.alloc (.map #[] 0) = w2 := ⟨_, rfl⟩
  obtain ⟨w3, e3⟩ : ∃ w3, w2.alloc (.map #[] 0) = w3 := ⟨_, rfl⟩
  obtain ⟨w4, e4⟩ : ∃ w4, w3.alloc (.cells #[.slice none 0 0] 270) = w4 := ⟨_, rfl⟩
  have hb : Blk w4 p 169 (pg0 d f) := by subst e4 e3 e2 e1; exact (((h.alloc _).alloc _).alloc _).alloc _
  have HE := Lib.hid (clear_end h e1 e2 e3 e4)
  have f5 := hb.frozen 5
  have f6 := hb.frozen 6
  have f7 := hb.frozen 7
  have f8 := hb.frozen 8
  have c5 : w4.cell? ⟨p, 5, none⟩ = some (.map none) := hb.cell 5
  have c6 : w4.cell? ⟨p, 6, none⟩ = some (.map none) := hb.cell 6
  have c7 : w4.cell? ⟨p, 7, none⟩ = some (.map none) := hb.cell 7
  have c8 : w4.cell? ⟨p, 8, none⟩ = some (.pointer none) := hb.cell 8
  have hN := Lib.hid (pileNew_any w3)
  rw [e4] at hN
  subst e1 e2 e3
  clear e4 hb h
  have hMM : ∀ (t : TypeId) (W : World), (Instr.makeMap t none).run Tryz.prog W = .ok (.map (some W.heap.size)) (W.alloc (.map #[] 0)) := fun t W => run_makeMap t W
  go_enter Tryz.func119, Tryz.ntmps119
  go_wp2_with (fail)
  go_must (refine hN.out.mono ?_)
  rintro e w5 ⟨rfl, rfl⟩
  go_wp2_with (fail)
  go_end0
  have hE := HE.out
  simp only [World.size_alloc] at hE
  exact hE

set_option maxRecDepth 100000 in
theorem listNil_any (f : Nat) (w : World) (h : w.cell? ⟨f, 0, none⟩ = some (.slice none 0 0)) :
    Calls Tryz.prog 176 #[ptrV f] w fun e w' => e = .returned (.slice none 0 0) ∧ Below w.heap.size w w' := by
  go_enter Tryz.func176, Tryz.ntmps176
  have hV : Calls Tryz.prog 223 #[.slice none 0 0] w fun e w' => e = .returned (.func (.func 269) #[] #[.pointer (some ⟨w.heap.size, 0, none⟩)]) ∧ w.alloc (.cells #[.slice none 0 0] 268) = w' := by
    go_enter Tryz.func223, Tryz.ntmps223
    go_wp2
    go_ret
    exact ⟨rfl, rfl⟩
  go_wp2_with (fail)
  go_must (refine hV.mono ?_)
  rintro e w1 ⟨rfl, rfl⟩
  go_wp2_with (fail)
  go_must (refine (sorted_nil (Blk.new _ _ _)).mono ?_)
  rintro e w2 ⟨rfl, hk⟩
  go_wp2_with (fail)
  go_ret
  refine ⟨rfl, ((Below.refl _ w).alloc (Nat.le_refl _) _).trans (hk.below (by simp) fun i hi e => by omega)⟩

set_option maxRecDepth 100000 in
set_option maxHeartbeats 2000000 in
theorem freeAll_any (f : Nat) (w : World) (h : Blk w f 274 #[.slice none 0 0, .slice none 0 0, .map none]) :
    Calls Tryz.prog 117 #[ptrV f] w fun e w' => e = .returned (.slice none 0 0) ∧ Below w.heap.size w w' := by
  have hL := Lib.hid (listNil_any f w (h.cell 0))
  have hlt := h.lt
  have g1 : w.cell? ⟨f, 1, none⟩ = some (.slice none 0 0) := h.cell 1
  clear h
  go_enter Tryz.func117, Tryz.ntmps117
  go_wp2_with (fail)
  go_must (refine hL.out.mono ?_)
  rintro e w1 ⟨rfl, hb⟩
  have g1' : w1.cell? ⟨f, 1, none⟩ = some (.slice none 0 0) := (hb.cell (p := ⟨f, 1, none⟩) hlt).trans g1
  go_wp2_with (fail)
  go_loopg [3, 17] 0 (fun gk s3 s17 wr => s3 = .slice none 0 0 ∧ s17 = .int .i64 0 ∧ wr = w1)
  case atStart => exact ⟨rfl, rfl, rfl⟩
  case round =>
    obtain ⟨rfl, rfl, rfl⟩ := hrel
    go_wp2_with (fail)
    go_must (refine (sort_nil _).mono ?_)
    rintro e w2 ⟨rfl, hb2⟩
    go_wp2_with (fail)
    go_ret
    exact ⟨rfl, hb.trans (hb2.mono hb.size)⟩

set_option maxRecDepth 100000 in
theorem indexNil_any (F : Value) (w : World) : Calls Tryz.prog 175 #[.slice none 0 0, F] w fun e w' => e = .returned (.int .i64 (-1)) ∧ w = w' := by
  go_enter Tryz.func175, Tryz.ntmps175
  go_wp2_with (fail)
  go_loopg [8] 0 (fun gk s8 wr => s8 = .int .i64 0 ∧ wr = w)
  case atStart => exact ⟨rfl, rfl⟩
  case round =>
    obtain ⟨rfl, rfl⟩ := hrel
    go_wp2_with (fail)
    go_ret
    exact ⟨rfl, rfl⟩

set_option maxRecDepth 100000 in
theorem containsNil_any (F : Value) (w : World) : Calls Tryz.prog 116 #[.slice none 0 0, F] w fun e w' => e = .returned (.bool false) ∧ w = w' := by
  go_enter Tryz.func116, Tryz.ntmps116
  go_wp2_with (fail)
  go_must (refine (indexNil_any _ _).mono ?_)
  rintro e w1 ⟨rfl, rfl⟩
  go_wp2
  go_ret
  exact ⟨rfl, rfl⟩
end Go.Ev

set_option linter.unusedVariables false
set_option linter.unusedSimpArgs false
namespace Go.Ev
open Go.Proofs Go.RowKit

theorem pgInv_new : PgInv 2 [] [] [] := by
  refine ⟨List.nodup_nil, List.nodup_nil, List.nodup_nil, fun k => Iff.rfl, fun k => ⟨fun h => by omega, fun h => by rcases h with h | h <;> cases h⟩, (fun k h => by cases h), (fun k v h => by cases h), Nat.le_refl _, (fun k v h => by cases h)⟩

theorem pages_new : Pages [] (fun _ => none) := fun _ => rfl

theorem pgOk_new {m : Nat} (hm : 4 ≤ m ∧ m ≤ 3000) {w : World} {p d f mb db wb sb B : Nat} {sy nw : Value} (h : Blk w p 169 #[ptrV d, ptrV f, .int .i64 2, .int .i64 2, .int .i64 1, .map (some mb), .map (some db), .map (some wb), ptrV sb])
    (hf : Blk w f 274 #[.slice none 0 0, .slice none 0 0, .map none]) (hd : DevAt w d m 2 sy nw) (m1 : MapI w mb [] 0) (m2 : MapI w db [] 0) (m3 : MapI w wb [] 0) (hs : Pl w sb (.slice none 0 0) [])
    (hdB : d < B) (hfB : f < B) (hsy : ∀ k, sy.ownBlock = some k → k < B) (hnw : ∀ k, nw.ownBlock = some k → k < B) (hp : B ≤ p) (h1 : p < mb) (h2 : mb < db) (h3 : db < wb) (h4 : wb < sb) :
    PgOk w p ⟨d, f, mb, db, wb, sb, .slice none 0 0, sy, nw⟩ m (fun _ => none) 0 := by
  have hdf : d ≠ f := by
    rintro rfl
    have := (hd.blk.eq hf).1
    revert this
    decide
  have hsyd : ∀ k, sy.ownBlock = some k → k ≠ d ∧ k ≠ f := fun k e => by
    obtain ⟨cs, hr⟩ := hd.srow
    exact ⟨own_ne hr hd.blk (by decide) k e, own_ne hr hf (by decide) k e⟩
  have hnwd : ∀ k, nw.ownBlock = some k → k ≠ d ∧ k ≠ f := fun k e => by
    obtain ⟨cs, hr⟩ := hd.nrow
    exact ⟨own_ne hr hd.blk (by decide) k e, own_ne hr hf (by decide) k e⟩
  refine ⟨2, [], [], 0, 0, 0, [], ⟨h, hf, hd, m1, m2, m3, hs, ?_, ?_, ?_, ?_, Nat.le_refl _, by omega⟩, pgInv_new, pages_new, rfl⟩
  · simp only [Pc.ids, List.nodup_cons, List.mem_cons, List.not_mem_nil, or_false, not_or, List.nodup_nil, not_false_eq_true, and_true]
    refine ⟨⟨?_, ?_, ?_, ?_, ?_, ?_⟩, ⟨hdf, ?_, ?_, ?_, ?_⟩, ⟨?_, ?_, ?_, ?_⟩, ⟨?_, ?_, ?_⟩, ⟨?_, ?_⟩, ?_⟩ <;> omega
  · intro k e; cases e
  · intro k e hm
    have a := hsyd k e
    have b := hsy k e
    simp only [Pc.ids, List.mem_cons, List.not_mem_nil, or_false] at hm
    rcases hm with hm | hm | hm | hm | hm | hm | hm <;> omega
  · intro k e hm
    have a := hnwd k e
    have b := hnw k e
    simp only [Pc.ids, List.mem_cons, List.not_mem_nil, or_false] at hm
    rcases hm with hm | hm | hm | hm | hm | hm | hm <;> omega

def PNewP (m d f : Nat) (sy nw : Value) (w : World) (e : Ending) (w' : World) : Prop :=
  ∃ p c, e = .returned (.tuple #[ptrV p, .int .i64 0]) ∧ PgOk w' p c m (fun _ => none) 0 ∧ (∀ k, c.S p k → k = d ∨ k = f ∨ sy.ownBlock = some k ∨ nw.ownBlock = some k ∨ w.heap.size ≤ k) ∧ Below w.heap.size w w'

theorem pnew_end {m : Nat} (hm : 4 ≤ m ∧ m ≤ 3000) {d f p : Nat} {sy nw : Value} {w w1 w2 w3 : World} (hd : DevAt w d m 2 sy nw) (hf : Blk w f 274 #[.slice none 0 0, .slice none 0 0, .map none]) (h1 : Below w.heap.size w w1) (hp : p = w1.heap.size) (e2 : w1.alloc (.cells (pg0 d f) 169) = w2) {e : Ending} (hc : ClearP p d f w2 e w3) :
    PNewP m d f sy nw w (.returned (.tuple #[ptrV p, .int .i64 0])) w3 := by
  have hb2 : Below w.heap.size w w2 := by subst e2; exact h1.alloc h1.size _
  have z2 : w2.heap.size = w1.heap.size + 1 := by subst e2; simp
  have hz := h1.size
  obtain ⟨_, mb, db, wb, sb, k1, k2, k3, k4, k5, k6, k7, k8, k9, kK⟩ := hc
  have hb3 : Below w.heap.size w w3 := hb2.trans (kK.below (by omega) (fun i hi e => by omega))
  have hd3 : DevAt w3 d m 2 sy nw := hd.keeps (S := fun _ => False) (Keeps.of_below hb3) fun _ _ h => h
  have hf3 := hf.below' hb3
  refine ⟨p, _, rfl, pgOk_new hm (B := w.heap.size) k1 hf3 hd3 k2 k3 k4 k5 hd.blk.lt hf.lt ?_ ?_ (by omega) (by omega) k7 k8 k9, ?_, hb3⟩
  · intro k e; obtain ⟨cs, hr⟩ := hd.srow; exact (hr.lt k e).2
  · intro k e; obtain ⟨cs, hr⟩ := hd.nrow; exact (hr.lt k e).2
  · rintro k (hk | hk | hk | hk)
    · simp only [Pc.ids, List.mem_cons, List.not_mem_nil, or_false] at hk
      rcases hk with hk | hk | hk | hk | hk | hk | hk
      · right; right; right; right; omega
      · left; omega
      · right; left; omega
      · right; right; right; right; omega
      · right; right; right; right; omega
      · right; right; right; right; omega
      · right; right; right; right; omega
    · cases hk
    · exact .inr (.inr (.inl hk))
    · exact .inr (.inr (.inr (.inl hk)))

set_option maxHeartbeats 2000000 in
set_option maxRecDepth 100000 in
theorem pagerNew_any {m : Nat} (hm : 4 ≤ m ∧ m ≤ 3000) (d f : Nat) (sy nw : Value) (w : World) (hd : DevAt w d m 2 sy nw) (hf : Blk w f 274 #[.slice none 0 0, .slice none 0 0, .map none]) :
    Calls Tryz.prog 33 #[ptrV d, ptrV f, .int .i64 2, .int .i64 1] w (PNewP m d f sy nw w) := by
  have hb0 : Below w.heap.size w (w.alloc (.cells #[.int .i64 2] 3)).drew := ((Below.refl _ w).alloc (Nat.le_refl _) _).drew
  have bx : Blk (w.alloc (.cells #[.int .i64 2] 3)).drew w.heap.size 3 #[.int .i64 2] := (Blk.new _ _ _).drew
  have x0 : (w.alloc (.cells #[.int .i64 2] 3)).drew.cell? ⟨w.heap.size, 0, none⟩ = some (.int .i64 2) := bx.cell 0
  have hL := Lib.hid (devLen_any d m 2 sy nw _ (hd.keeps (S := fun _ => False) (Keeps.of_below hb0) fun _ _ h => h))
  have hA := Lib.hid (freeAll_any f _ (hf.below' hb0))
  have hE := Lib.hid (fun (w1 w2 w3 : World) (p : Nat) (h1 : Below w.heap.size w w1) (hp : p = w1.heap.size) e2 e hc => pnew_end hm (w1 := w1) (w2 := w2) (w3 := w3) (e := e) hd hf h1 hp e2 hc)
  have hzz : (w.alloc (.cells #[.int .i64 2] 3)).drew.heap.size = w.heap.size + 1 := by simp
  have HB := Lib.hid hb0
  have HBX := Lib.hid bx
  have X0 := Lib.hid x0
  clear hd hf hb0 bx x0
  go_enter Tryz.func33, Tryz.ntmps33
  go_wp2_with (fail)
  have x0 := X0.out
  refine wp_region_any (by kernel_rfl) ?_
  change wpAny _ _ _ _ _ _ _ (World.drew _)
  try simp only [Act.put, lT, l0, lS]
  refine tA 0 ?_; try simp only [Act.put, lT, l0, lS]
  refine tA 1 ?_; try simp only [Act.put, lT, l0, lS]
  refine tA 2 ?_; try simp only [Act.put, lT, l0, lS]
  refine tA 3 ?_; try simp only [Act.put, lT, l0, lS]
  refine tA 4 ?_; try simp only [Act.put, lT, l0, lS]
  refine tA 5 ?_; try simp only [Act.put, lT, l0, lS]
  refine tA 6 ?_; try simp only [Act.put, lT, l0, lS]
  refine rd 7 (by kernel_rfl) rfl (fun K hK => ?_); go_simp; refine hK _ _ ?_; clear hK K
  try simp only [Act.put, lT, l0, lS]
  refine tA 8 ?_; try simp only [Act.put, lT, l0, lS]
  refine tA 9 ?_; try simp only [Act.put, lT, l0, lS]
  refine tA 10 ?_; try simp only [Act.put, lT, l0, lS]
  refine tA 12 ?_; try simp only [Act.put, lT, l0, lS]
  refine wpAny_ready (rs := [11, 13]) (by kernel_rfl) (by simp) (AllReady.cons (o := { dst := _, op := _, type := _, pos := _, after := _, guard := _ }) rfl (fun K hK => ?_) (AllReady.cons (o := { dst := _, op := _, type := _, pos := _, after := _, guard := _ }) rfl (fun K hK => ?_) AllReady.nil))
  · go_simp
    refine hK _ _ ?_
    clear hK K
    refine rd 13 (by kernel_rfl) rfl (fun K hK => ?_); go_simp
    (go_must (refine hL.out.mono ?_); rintro e w2 ⟨rfl, rfl⟩)
    go_simp
    refine hK _ _ ?_
    clear hK K
    try simp only [Act.put, lT, l0, lS]
    refine tA 14 ?_; try simp only [Act.put, lT, l0, lS]
    refine tA 15 ?_; try simp only [Act.put, lT, l0, lS]
    refine tA 16 ?_; try simp only [Act.put, lT, l0, lS]
    refine tA 17 ?_; try simp only [Act.put, lT, l0, lS]
    refine tA 18 ?_; try simp only [Act.put, lT, l0, lS]
    refine tA 19 ?_; try simp only [Act.put, lT, l0, lS]
    refine wpAny_done (by kernel_rfl) ?_ _
    go_wp2_with (fail)
    go_must (refine hA.out.mono ?_)
    rintro e w3 ⟨rfl, hb3⟩
    have x3 : w3.cell? ⟨w.heap.size, 0, none⟩ = some (.int .i64 2) := (HBX.out.below' hb3).cell 0
    have hz3 := hb3.size
    go_wp2_with (fail)
    go_must (refine (containsNil_any _ _).mono ?_)
    rintro e w4 ⟨rfl, rfl⟩
    go_wp2_with (fail)
    go_must (refine (clear_any w3.heap.size d f _ (Blk.new _ _ _)).mono ?_)
    intro e w5 hc
    have HC := Lib.hid hc
    obtain ⟨rfl, _⟩ := hc
    go_wp2_with (fail)
    go_ret2
    exact hE.out w3 _ w5 w3.heap.size (HB.out.trans (hb3.mono (by simp))) rfl rfl _ HC.out
  · go_simp
    (go_must (refine hL.out.mono ?_); rintro e w2 ⟨rfl, rfl⟩)
    go_simp
    refine hK _ _ ?_
    clear hK K
    refine rd 11 (by kernel_rfl) rfl (fun K hK => ?_); go_simp; refine hK _ _ ?_; clear hK K
    try simp only [Act.put, lT, l0, lS]
    refine tA 14 ?_; try simp only [Act.put, lT, l0, lS]
    refine tA 15 ?_; try simp only [Act.put, lT, l0, lS]
    refine tA 16 ?_; try simp only [Act.put, lT, l0, lS]
    refine tA 17 ?_; try simp only [Act.put, lT, l0, lS]
    refine tA 18 ?_; try simp only [Act.put, lT, l0, lS]
    refine tA 19 ?_; try simp only [Act.put, lT, l0, lS]
    refine wpAny_done (by kernel_rfl) ?_ _
    go_wp2_with (fail)
    go_must (refine hA.out.mono ?_)
    rintro e w3 ⟨rfl, hb3⟩
    have x3 : w3.cell? ⟨w.heap.size, 0, none⟩ = some (.int .i64 2) := (HBX.out.below' hb3).cell 0
    have hz3 := hb3.size
    go_wp2_with (fail)
    go_must (refine (containsNil_any _ _).mono ?_)
    rintro e w4 ⟨rfl, rfl⟩
    go_wp2_with (fail)
    go_must (refine (clear_any w3.heap.size d f _ (Blk.new _ _ _)).mono ?_)
    intro e w5 hc
    have HC := Lib.hid hc
    obtain ⟨rfl, _⟩ := hc
    go_wp2_with (fail)
    go_ret2
    exact hE.out w3 _ w5 w3.heap.size (HB.out.trans (hb3.mono (by simp))) rfl rfl _ HC.out

def BaseP (m : Nat) (w : World) (e : Ending) (w' : World) : Prop :=
  ∃ d g f h sy nw, e = .returned (.tuple #[ptrV d, ptrV g, ptrV f, ptrV h, .bool true]) ∧ DevAt w' d m 2 sy nw ∧ Blk w' f 274 #[.slice none 0 0, .slice none 0 0, .map none] ∧ w.heap.size ≤ d ∧ w.heap.size ≤ f ∧ (∀ k, sy.ownBlock = some k → w.heap.size ≤ k) ∧ (∀ k, nw.ownBlock = some k → w.heap.size ≤ k) ∧ Below w.heap.size w w'

theorem devNew3 {m : Nat} (hm : 4 ≤ m ∧ m ≤ 3000) (w : World) : Calls Tryz.prog 109 #[.int .i64 (m : Int)] w fun e w' => e = .returned (.tuple #[ptrV w.heap.size, .int .i64 0]) ∧ DevAt w' w.heap.size m 0 (.slice none 0 0) (.slice none 0 0) ∧ Below w.heap.size w w' ∧ w'.heap.size = w.heap.size + 1 :=
  (devNew_any m w (by omega) hm.2).mono fun e w' ⟨h1, h2⟩ => ⟨h1, h2 ▸ DevAt.new m w hm.2, h2 ▸ (Below.refl _ w).alloc (Nat.le_refl _) _, by rw [← h2]; simp⟩

theorem refNew3 {m : Nat} (hm : 4 ≤ m ∧ m ≤ 3000) (w : World) : Calls Tryz.prog 110 #[.int .i64 (m : Int)] w fun e w' => e = .returned (.tuple #[ptrV w.heap.size, .int .i64 0]) ∧ Blk w' w.heap.size 263 (refDev m) ∧ Below w.heap.size w w' ∧ w'.heap.size = w.heap.size + 1 :=
  (refNew_any m w (by omega) hm.2).mono fun e w' ⟨h1, h2⟩ => ⟨h1, h2 ▸ Blk.new _ _ _, h2 ▸ (Below.refl _ w).alloc (Nat.le_refl _) _, by rw [← h2]; simp⟩

theorem freeNew3 (w : World) : Calls Tryz.prog 113 #[.slice none 0 0] w fun e w' => e = .returned (ptrV w.heap.size) ∧ Blk w' w.heap.size 274 #[.slice none 0 0, .slice none 0 0, .map none] ∧ Below w.heap.size w w' ∧ w'.heap.size = w.heap.size + 1 :=
  (freeNew_any w).mono fun e w' ⟨h1, h2⟩ => ⟨h1, h2 ▸ Blk.new _ _ _, h2 ▸ (Below.refl _ w).alloc (Nat.le_refl _) _, by rw [← h2]; simp⟩

/-- What the parts of Base come to. -/
theorem base_end {m : Nat} {w w1 w2 w3 w4 w5 w6 : World} {sy nw : Value} {T : TypeId} {V : Array Value} (a1 : DevAt w1 w.heap.size m 0 (.slice none 0 0) (.slice none 0 0)) (b1 : Below w.heap.size w w1) (z1 : w1.heap.size = w.heap.size + 1)
    (b2 : Below w1.heap.size w1 w2) (z2 : w2.heap.size = w1.heap.size + 1) (a2 : Blk w2 w1.heap.size 263 (refDev m))
    (a3 : DevAt w3 w.heap.size m 2 sy nw) (k3 : GrowK w.heap.size (.slice none 0 0) (.slice none 0 0) sy nw w2 w3) (k4 : Keeps (fun k => k = w1.heap.size) w3 w4) (a5 : Blk w5 w4.heap.size 274 #[.slice none 0 0, .slice none 0 0, .map none])
    (b5 : Below w4.heap.size w4 w5) (b6 : Below w5.heap.size w5 w6) :
    BaseP m w (.returned (.tuple #[ptrV w.heap.size, ptrV w1.heap.size, ptrV w4.heap.size, ptrV w6.heap.size, .bool true])) (w6.alloc (.cells V T)) := by
  have hz3 := k3.keeps.size
  have hz4 := k4.size
  have hz5 := b5.size
  have hz6 := b6.size
  have c2 : Below w.heap.size w w2 := b1.trans (b2.mono (by omega))
  have c3 : Below w.heap.size w w3 := c2.trans (k3.keeps.below (by omega) (fun i hi e => by
    rcases e with e | e | e
    · omega
    · cases e
    · cases e))
  have c4 : Below w.heap.size w w4 := c3.trans (k4.below (by omega) (fun i hi e => by omega))
  have c5 : Below w.heap.size w w5 := c4.trans (b5.mono (by omega))
  have c6 : Below w.heap.size w w6 := c5.trans (b6.mono (by omega))
  have c7 : Below w.heap.size w (w6.alloc (.cells V T)) := c6.alloc (by omega) _
  have a2' : Blk w3 w1.heap.size 263 (refDev m) := a2.keeps k3.keeps (fun e => by
    rcases e with e | e | e
    · omega
    · cases e
    · cases e)
  have a4 : DevAt w4 w.heap.size m 2 sy nw := a3.keeps k4 (fun k hk e => by
    subst e
    rcases hk with e | e | e
    · omega
    · obtain ⟨cs, hr⟩ := a3.srow
      exact own_ne hr a2' (by decide) _ e rfl
    · obtain ⟨cs, hr⟩ := a3.nrow
      exact own_ne hr a2' (by decide) _ e rfl)
  have b46 : Below w4.heap.size w4 (w6.alloc (.cells V T)) := (b5.trans (b6.mono (by omega))).alloc (by omega) _
  have a6 : DevAt (w6.alloc (.cells V T)) w.heap.size m 2 sy nw := a4.keeps (S := fun _ => False) (Keeps.of_below b46) fun _ _ h => h
  refine ⟨w.heap.size, w1.heap.size, w4.heap.size, w6.heap.size, sy, nw, rfl, a6, (a5.below' b6).alloc _, Nat.le_refl _, by omega, fun k e => ?_, fun k e => ?_, c7⟩
  · rcases k3.sy k e with h | h
    · cases h
    · omega
  · rcases k3.nw k e with h | h
    · cases h
    · omega

set_option maxHeartbeats 2000000 in
set_option maxRecDepth 100000 in
theorem base_any {m : Nat} (hm : 4 ≤ m ∧ m ≤ 3000) (w : World) : Calls Tryz.prog 32 #[.int .i64 (m : Int), .int .i64 2, .slice none 0 0] w (BaseP m w) := by
  go_enter Tryz.func32, Tryz.ntmps32
  go_wp2_with (fail)
  go_must (refine (devNew3 hm w).mono ?_)
  rintro e w1 ⟨rfl, a1, b1, z1⟩
  have A1 := Lib.hid a1
  have B1 := Lib.hid b1
  have Z1 := Lib.hid z1
  clear a1 b1 z1
  go_wp2_with (fail)
  go_must (refine (refNew3 hm w1).mono ?_)
  rintro e w2 ⟨rfl, a2, b2, z2⟩
  have a1' : DevAt w2 w.heap.size m 0 (.slice none 0 0) (.slice none 0 0) := A1.out.keeps (S := fun _ => False) (Keeps.of_below b2) fun _ _ h => h
  have A2 := Lib.hid a2
  have B2 := Lib.hid b2
  have Z2 := Lib.hid z2
  have hG := Lib.hid (devTo_any w.heap.size m 0 2 _ _ w2 a1' (by omega) (by omega))
  clear a2 b2 z2 a1'
  go_wp2_with (fail)
  go_must (refine hG.out.mono ?_)
  rintro e w3 ⟨rfl, sy, nw, a3, k3⟩
  have hR := Lib.hid (refGrow_any hm (A2.out.keeps k3.keeps (fun e => by
    have := Z1.out
    rcases e with e | e | e
    · omega
    · cases e
    · cases e)))
  have A3 := Lib.hid a3
  have K3 := Lib.hid k3
  clear a3 k3 hG
  go_wp2_with (fail)
  go_must (refine hR.out.mono ?_)
  rintro e w4 ⟨rfl, k4⟩
  have K4 := Lib.hid k4
  clear k4 hR
  go_wp2_with (fail)
  go_must (refine (freeNew3 w4).mono ?_)
  rintro e w5 ⟨rfl, a5, b5, z5⟩
  have A5 := Lib.hid a5
  have B5 := Lib.hid b5
  clear a5 b5 z5
  go_wp2_with (fail)
  go_must (refine (refSorted_nil w5).mono ?_)
  rintro e w6 ⟨rfl, b6⟩
  have B6 := Lib.hid b6
  clear b6
  go_wp2_with (fail)
  refine bodyPost_ret (v := .tuple #[ptrV w.heap.size, ptrV w1.heap.size, ptrV w4.heap.size, ptrV w6.heap.size, .bool true]) (by simp [results, Tryz.results32, go_sem]) rfl ?_
  exact base_end A1.out B1.out Z1.out B2.out Z2.out A2.out A3.out K3.out K4.out A5.out B5.out B6.out

def TNewP (m p : Nat) (c : Pc) (w : World) (e : Ending) (w' : World) : Prop :=
  ∃ root c', e = .returned (.tuple #[.int .i64 root, .int .i64 0]) ∧ PgOk w' p c' m (updS (fun _ => none) root (some ⟨2, 0, []⟩)) 1 ∧ PgK p c c' w w'

theorem treeNew_any {m : Nat} (hm : 4 ≤ m ∧ m ≤ 3000) (p : Nat) (c : Pc) (w : World) (h : PgOk w p c m (fun _ => none) 0) : Calls Tryz.prog 100 #[ptrV p] w (TNewP m p c w) := by
  have hM := Lib.hid (make_any ⟨2, 0, []⟩ w h (by simp [Pg.ok]) (by omega))
  clear h
  go_enter Tryz.func100, Tryz.ntmps100
  go_wp2_with (fail)
  go_must (refine hM.out.mono ?_)
  rintro e w1 ⟨root, c', rfl, _, _, _, hp, hk⟩
  have HP := Lib.hid hp
  have HK := Lib.hid hk
  clear hp hk
  go_wp2_with (fail)
  go_ret2
  exact ⟨root, c', rfl, HP.out, HK.out⟩

def BeginM (m : Nat) (w : World) (e : Ending) (w' : World) : Prop :=
  ∃ d f p c root, e = .returned (.tuple #[ptrV d, ptrV f, ptrV p, .int .i64 root, .bool true]) ∧ PgOk w' p c m (updS (fun _ => none) root (some ⟨2, 0, []⟩)) 1 ∧ (∀ k, c.S p k → w.heap.size ≤ k) ∧ Below w.heap.size w w'

set_option maxHeartbeats 2000000 in
theorem begin_m {m : Nat} (hm : 4 ≤ m ∧ m ≤ 3000) (w : World) : Calls Tryz.prog 28 #[.int .i64 (m : Int)] w (BeginM m w) := by
  go_enter Tryz.func28, Tryz.ntmps28
  go_wp2_with (fail)
  go_must (refine (base_any hm w).mono ?_)
  rintro e w1 ⟨d, g, f, h, sy, nw, rfl, hd, hf, d1, d2, d3, d4, b1⟩
  have hN := Lib.hid (pagerNew_any hm d f sy nw w1 hd hf)
  have B1 := Lib.hid b1
  clear hd hf b1
  go_wp2_with (fail)
  go_must (refine hN.out.mono ?_)
  rintro e w2 ⟨p, c, rfl, hp, hs, b2⟩
  have hT := Lib.hid (treeNew_any hm p c w2 hp)
  have hz1 := B1.out.size
  have HS := Lib.hid (show ∀ k, c.S p k → w.heap.size ≤ k from fun k hk => by
    rcases hs k hk with h | h | h | h | h
    · omega
    · omega
    · exact d3 k h
    · exact d4 k h
    · omega)
  have B2 := Lib.hid b2
  clear hp hs b2 hN
  go_wp2_with (fail)
  go_must (refine hT.out.mono ?_)
  rintro e w3 ⟨root, c', rfl, hp, hk⟩
  have HP := Lib.hid hp
  have HK := Lib.hid hk
  clear hp hk hT
  go_wp2_with (fail)
  refine bodyPost_ret (v := .tuple #[ptrV d, ptrV f, ptrV p, .int .i64 root, .bool true]) (by simp [results, Tryz.results28, go_sem]) rfl ?_
  have hz2 := B2.out.size
  refine ⟨d, f, p, c', root, rfl, HP.out, fun k hk => ?_, ?_⟩
  · rcases HK.out.sub k hk with h | h
    · exact HS.out k h
    · omega
  · exact (B1.out.trans (B2.out.mono hz1)).trans (HK.out.keeps.below (by omega) fun i hi e => by have := HS.out i e; omega)

abbrev BeginP (w : World) (e : Ending) (w' : World) : Prop := BeginM 3000 w e w'
theorem begin_any (w : World) : Calls Tryz.prog 28 #[.int .i64 3000] w (BeginP w) := begin_m (m := 3000) (by omega) w
end Go.Ev
