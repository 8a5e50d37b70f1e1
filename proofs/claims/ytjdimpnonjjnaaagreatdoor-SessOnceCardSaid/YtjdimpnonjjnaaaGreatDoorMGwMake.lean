/-
  Texts of this claim.
-/
import Derived.Test.YtjdimpnonjjnaaaGreatDoorMGwReplace
import Derived.Test.YtjdimpnonjjnaaaGreatDoorMGwSeal
set_option linter.unusedVariables false
set_option linter.unusedSimpArgs false
namespace Go.Ev
open Go.Proofs Go.RowKit
def PgOk (w : World) (p : Nat) (c : Pc) (most : Nat) (M : Store) (cnt : Nat) : Prop := ∃ n made was mc wc dc spare, PgAt w p c most n n made was mc wc dc spare ∧ PgInv n made was spare ∧ Pages made M ∧ cnt = made.length
def Pg.ok (x : Pg) : Prop := 1 ≤ x.kind ∧ x.kind ≤ 255 ∧ 0 ≤ x.next ∧ x.next ≤ 4294967295 ∧ x.body.length ≤ 240
def MakeP (p : Nat) (c : Pc) (most : Nat) (M : Store) (cnt : Nat) (x : Pg) (w : World) (e : Ending) (w' : World) : Prop :=
 ∃ id c', e = .returned (.tuple #[.int .i64 id, .int .i64 0]) ∧ M id = none ∧ 2 ≤ id ∧ id ≤ 100000 ∧ PgOk w' p c' most (updS M id (some x)) (cnt + 1) ∧ PgK p c c' w w'
section
variable {p : Nat} {c : Pc} {most cnt : Nat} {M : Store}
theorem PgOk.below {w w' : World} (h : PgOk w p c most M cnt) (hb : Below w.heap.size w w') : PgOk w' p c most M cnt := by
 obtain ⟨n, made, was, mc, wc, dc, spare, h1, h2, h3, h4⟩ := h
 exact ⟨n, made, was, mc, wc, dc, spare, h1.below hb, h2, h3, h4⟩
theorem PgOk.keeps {S : Nat → Prop} {w w' : World} (h : PgOk w p c most M cnt) (hk : Keeps S w w') (hs : ∀ k, c.S p k → ¬ S k) : PgOk w' p c most M cnt := by
 obtain ⟨n, made, was, mc, wc, dc, spare, h1, h2, h3, h4⟩ := h
 exact ⟨n, made, was, mc, wc, dc, spare, h1.keeps hk hs, h2, h3, h4⟩
theorem PgOk.lt {w : World} (h : PgOk w p c most M cnt) : ∀ k, c.S p k → k < w.heap.size := by
 obtain ⟨n, made, was, mc, wc, dc, spare, h1, h2, h3, h4⟩ := h
 exact h1.lt
theorem PgOk.alloc {w : World} (h : PgOk w p c most M cnt) (o : Obj) : PgOk (w.alloc o) p c most M cnt := h.below ((Below.refl _ _).alloc (Nat.le_refl _) o)
theorem make_end {n : Nat} {made was : List Ent} {mc wc dc : Nat} {spare spare' : List Int} {w : World} {c' : Pc} {x : Pg} (hI : PgInv n made was spare) (hP : Pages made M)
  (h : PgAt w p c' most (if spare = [] then n + 1 else n) (if spare = [] then n + 1 else n) made was mc wc dc spare') (hp : spare'.Perm spare.tail) :
  getE made (nextI n spare) = none ∧ 2 ≤ nextI n spare ∧ nextI n spare ≤ n ∧ M (nextI n spare) = none ∧
  PgOk (turn (turn w c'.wb (delE was (nextI n spare)) wc) c'.mb (putE made (nextI n spare) (pgV x) mc) (clockE made (nextI n spare) mc)) p c' most (updS M (nextI n spare) (some x)) (made.length + 1) := by
 have hkey : PgInv (if spare = [] then n + 1 else n) (putE made (nextI n spare) (pgV x) mc) (delE was (nextI n spare)) spare' ∧ getE made (nextI n spare) = none ∧ 2 ≤ nextI n spare ∧ nextI n spare ≤ n := by
  cases spare with
  | nil =>
   have : spare' = [] := List.Perm.eq_nil hp
   subst this
   have := hI.make_new x mc
   exact ⟨this.1, this.2, by have := hI.two; show 2 ≤ (n : Int); omega, Int.le_refl _⟩
  | cons y r =>
   have := hI.make_spare hp x mc
   have hc := (hI.cover y).2 (.inr (List.mem_cons_self ..))
   exact ⟨by rw [if_neg (by simp)]; exact this.1, this.2, hc.1, by have := hc.2; show y ≤ n; omega⟩
 obtain ⟨k1, k2, k3, k4⟩ := hkey
 refine ⟨k2, k3, k4, ?_, _, _, _, _, _, _, _, (h.turnW _ _).turnM _ _ (h.clk.put _ _), k1, hP.put _ _ _, by rw [len_put k2]⟩
 have := hP (nextI n spare)
 rw [k2] at this
 cases hq : M (nextI n spare) with
 | none => rfl
 | some y => rw [hq] at this; cases this
set_option maxHeartbeats 2000000 in
set_option maxRecDepth 100000 in
theorem make_any (x : Pg) (w : World) (h : PgOk w p c most M cnt) (hx : x.ok) (hroom : cnt + 3 ≤ most) :
  Calls Tryz.prog 92 #[ptrV p, .agg #[.int .i64 x.kind, .int .i64 x.next, strV x.body]] w (MakeP p c most M cnt x w) := by
 obtain ⟨n, made, was, mc, wc, dc, spare, hA, hI, hP, rfl⟩ := h
 obtain ⟨hx1, hx2, hx3, hx4, hx5⟩ := hx
 have hcount := hI.count
 have hsm := hA.dev.small
 obtain ⟨hsm1, hsm2⟩ := hsm
 have hnm : spare = [] → n + 1 ≤ most := fun e => by subst e; simp at hcount; omega
 have hsl : spare.length ≤ 800000 := by omega
 have hA1 := hA.alloc (.cells #[.int .i64 x.kind, .int .i64 x.next, strV x.body] 172)
 have hnx : 2 ≤ nextI n spare ∧ nextI n spare ≤ n := by
  cases spare with
  | nil => exact ⟨by have := hI.two; show 2 ≤ (n : Int); omega, Int.le_refl _⟩
  | cons y r => have := (hI.cover y).2 (.inr (List.mem_cons_self ..)); exact ⟨this.1, by show y ≤ n; omega⟩
 have hN := Hdz (next_any _ hA1.drew hsl)
 have hS := Hdz (fun W => seal_ok (nextI n spare) x.kind x.next ⟨x.body.toArray⟩ W (by omega) (by omega) hx3 hx4 hx1 hx2 (by simp only [ByteArray.size, List.size_toArray]; omega))
 have hT := Hdz (fun W (hb : Below (w.alloc (.cells #[.int .i64 x.kind, .int .i64 x.next, strV x.body] 172)).heap.size (w.alloc (.cells #[.int .i64 x.kind, .int .i64 x.next, strV x.body] 172)) W) hm => take_any W (hA1.below hb) hsl hm)
 have hE := Hdz (fun (w' : World) (c' : Pc) (spare' : List Int) => make_end (p := p) (most := most) (M := M) (mc := mc) (wc := wc) (dc := dc) (w := w') (c' := c') (spare' := spare') (x := x) hI hP)
 have bx : Blk (w.alloc (.cells #[.int .i64 x.kind, .int .i64 x.next, strV x.body] 172)) w.heap.size 172 #[.int .i64 x.kind, .int .i64 x.next, strV x.body] := Blk.new _ _ _
 have g0 : (w.alloc (.cells #[.int .i64 x.kind, .int .i64 x.next, strV x.body] 172)).cell? ⟨p, 0, none⟩ = some (ptrV c.d) := hA1.blk.cell 0
 have HI := Hdz hI
 have HP := Hdz hP
 have HA := Hdz hA
 have HA1 := Hdz hA1
 clear hI hP hA hA1 hcount
 go_enter Tryz.func92, Tryz.ntmps92
 go_wp2_with (fail)
 go_must (refine (pgNone_any _ _ _ g0).mono ?_)
 rintro e w1 ⟨rfl, rfl⟩
 go_wp2_with (fail)
 have x0 : (w.alloc (.cells #[.int .i64 x.kind, .int .i64 x.next, strV x.body] 172)).cell? ⟨w.heap.size, 0, none⟩ = some (.int .i64 x.kind) := bx.cell 0
 have x1 : (w.alloc (.cells #[.int .i64 x.kind, .int .i64 x.next, strV x.body] 172)).cell? ⟨w.heap.size, 1, none⟩ = some (.int .i64 x.next) := bx.cell 1
 have x2 : (w.alloc (.cells #[.int .i64 x.kind, .int .i64 x.next, strV x.body] 172)).cell? ⟨w.heap.size, 2, none⟩ = some (strV x.body) := bx.cell 2
 have hzW : w.heap.size + 1 = (w.alloc (.cells #[.int .i64 x.kind, .int .i64 x.next, strV x.body] 172)).heap.size := by simp
 refine wRz ?_
 try simp only [lAz]
 refine tA 0 ?_; try simp only [lAz]
 refine wpAny_ready (rs := [1, 2]) (by kernel_rfl) (by simp) (aCz (fun K hK => ?_) (aCz (fun K hK => ?_) AllReady.nil))
 ·go_simp
  (go_must (refine hN.out.mono ?_); rintro e w2 ⟨rfl, hb2⟩)
  have y0 : w2.cell? ⟨w.heap.size, 0, none⟩ = some (.int .i64 x.kind) := (hb2.cell (p := ⟨w.heap.size, 0, none⟩) (by simp)).trans x0
  have y1 : w2.cell? ⟨w.heap.size, 1, none⟩ = some (.int .i64 x.next) := (hb2.cell (p := ⟨w.heap.size, 1, none⟩) (by simp)).trans x1
  have y2 : w2.cell? ⟨w.heap.size, 2, none⟩ = some (strV x.body) := (hb2.cell (p := ⟨w.heap.size, 2, none⟩) (by simp)).trans x2
  go_simp
  apply hK
  clear hK K
  refine rZz 2 fun K hK => ?_; go_simp; apply hK; clear hK K
  refine rZz 3 fun K hK => ?_; go_simp
  (go_must (refine (hS.out w2).mono ?_); rintro e w3 ⟨⟨t, rfl⟩, hb3⟩)
  go_simp
  apply hK
  clear hK K
  refine rZz 4 fun K hK => ?_; go_simp; apply hK; clear hK K
  try simp only [lAz]
  refine tA 5 ?_; try simp only [lAz]
  refine tA 6 ?_; try simp only [lAz]
  refine rZz 7 fun K hK => ?_; go_simp; apply hK; clear hK K
  refine rZz 8 fun K hK => ?_; go_simp; apply hK; clear hK K
  refine wDz ?_
  have hbT := (hb2.trans (hb3.mono hb2.size))
  go_wp2_with (fail)
  have hbT' : Below (w.alloc (.cells #[.int .i64 x.kind, .int .i64 x.next, strV x.body] 172)).heap.size (w.alloc (.cells #[.int .i64 x.kind, .int .i64 x.next, strV x.body] 172)) w3 := ⟨hbT.os, hbT.tape, hbT.output, hbT.size, hbT.block⟩
  have bx3 := bx.below' hbT'
  have hlt3 := hbT'.size
  have hAt3 := HA1.out.below hbT'
  have hroom3 : spare = [] → n + 1 ≤ most := hnm
  go_must (refine (hT.out w3 hbT' hnm).mono ?_)
  rintro e w4 ⟨c', spare', rfl, hA4, hperm, hK4, hmb, hwb⟩
  have hEE := hE.out w4 c' spare' hA4 hperm
  obtain ⟨q1, q2, q3, q4, q5⟩ := hEE
  have hlt4 := hK4.keeps.size
  have hbig : w.heap.size < w3.heap.size := by simp at hlt3; omega
  have hnS : ¬ c.S p w.heap.size := fun hh => by have := HA.out.lt _ hh; omega
  have bx4 := bx3.keeps hK4.keeps hnS
  have gw7 : w4.cell? ⟨p, 7, none⟩ = some (.map (some c'.wb)) := hA4.blk.cell 7
  have hdl := fun ty => run_delete_I hA4.wwas (P := Tryz.prog) Tryz.underlying166 Tryz.underlying3 ty (nextI n spare)
  have hA5 := hA4.turnW (delE was (nextI n spare)) wc
  have gw5 : (turn w4 c'.wb (delE was (nextI n spare)) wc).cell? ⟨p, 5, none⟩ = some (.map (some c'.mb)) := hA5.blk.cell 5
  have y0 : (turn w4 c'.wb (delE was (nextI n spare)) wc).cell? ⟨w.heap.size, 0, none⟩ = some (.int .i64 x.kind) := (hA4.wwas.cell_turn _ _ _).trans (bx4.cell 0)
  have y1 : (turn w4 c'.wb (delE was (nextI n spare)) wc).cell? ⟨w.heap.size, 1, none⟩ = some (.int .i64 x.next) := (hA4.wwas.cell_turn _ _ _).trans (bx4.cell 1)
  have y2 : (turn w4 c'.wb (delE was (nextI n spare)) wc).cell? ⟨w.heap.size, 2, none⟩ = some (strV x.body) := (hA4.wwas.cell_turn _ _ _).trans (bx4.cell 2)
  have hup := run_update_I hA5.drew.mad (P := Tryz.prog) Tryz.underlying165 Tryz.underlying3 (nextI n spare) (pgV x)
  unfold pgV strB at hup
  have HEnd : Hid (MakeP p c most M made.length x w (.returned (.tuple #[.int .i64 (nextI n spare), .int .i64 0])) (turn (turn w4 c'.wb (delE was (nextI n spare)) wc).drew c'.mb (putE made (nextI n spare) (pgV x) mc) (clockE made (nextI n spare) mc))) := by
   have hk0 : PgK p c c w w3 := ⟨Keeps.of_below ((Below.refl _ w).alloc (Nat.le_refl _) _ |>.trans (hbT'.mono (by simp))), fun _ h => .inl h, rfl, rfl, rfl⟩
   have hk5 : PgK p c' c' w4 (turn w4 c'.wb (delE was (nextI n spare)) wc) := PgK.turn (.inr rfl) _ _
   have hk6 : PgK p c' c' (turn w4 c'.wb (delE was (nextI n spare)) wc) (turn w4 c'.wb (delE was (nextI n spare)) wc).drew := ⟨(Keeps.refl _ _).drew, fun _ h => .inl h, rfl, rfl, rfl⟩
   have hk7 : PgK p c' c' (turn w4 c'.wb (delE was (nextI n spare)) wc).drew (turn (turn w4 c'.wb (delE was (nextI n spare)) wc).drew c'.mb (putE made (nextI n spare) (pgV x) mc) (clockE made (nextI n spare) mc)) := PgK.turn (.inl rfl) _ _
   exact ⟨nextI n spare, c', rfl, q4, q2, by omega, q5.below (Below.refl _ _).drew, (((hk0.trans hK4).trans hk5).trans hk6).trans hk7⟩
  unfold pgV strB at HEnd
  clear hmb hwb hA4 hA5 hK4 q1 q4 q5 hT hE hS hN hAt3 hbT hbT' hroom3 HA1 HA HI HP
  go_wp2_with (fail)
  refine wRz ?_
  try simp only [lAz]
  refine tA 0 ?_; try simp only [lAz]
  refine tA 1 ?_; try simp only [lAz]
  refine tA 2 ?_; try simp only [lAz]
  refine tA 4 ?_; try simp only [lAz]
  refine wpAny_ready (rs := [3, 5]) (by kernel_rfl) (by simp) (aCz (fun K hK => ?_) (aCz (fun K hK => ?_) AllReady.nil))
  ·go_simp
   apply hK
   clear hK K
   refine rZz 5 fun K hK => ?_; go_simp; apply hK; clear hK K
   refine rZz 6 fun K hK => ?_; go_simp; apply hK; clear hK K
   refine wDz ?_
   go_wp2
   go_ret2
   exact HEnd.out
  ·go_simp
   apply hK
   clear hK K
   refine rZz 3 fun K hK => ?_; go_simp; apply hK; clear hK K
   refine rZz 6 fun K hK => ?_; go_simp; apply hK; clear hK K
   refine wDz ?_
   go_wp2
   go_ret2
   exact HEnd.out
 ·go_simp
  apply hK
  clear hK K
  refine rZz 1 fun K hK => ?_; go_simp
  (go_must (refine hN.out.mono ?_); rintro e w2 ⟨rfl, hb2⟩)
  go_simp
  apply hK
  clear hK K
  refine rZz 3 fun K hK => ?_; go_simp
  (go_must (refine (hS.out w2).mono ?_); rintro e w3 ⟨⟨t, rfl⟩, hb3⟩)
  go_simp
  apply hK
  clear hK K
  refine rZz 4 fun K hK => ?_; go_simp; apply hK; clear hK K
  try simp only [lAz]
  refine tA 5 ?_; try simp only [lAz]
  refine tA 6 ?_; try simp only [lAz]
  refine rZz 7 fun K hK => ?_; go_simp; apply hK; clear hK K
  refine rZz 8 fun K hK => ?_; go_simp; apply hK; clear hK K
  refine wDz ?_
  have hbT := (hb2.trans (hb3.mono hb2.size))
  go_wp2_with (fail)
  have hbT' : Below (w.alloc (.cells #[.int .i64 x.kind, .int .i64 x.next, strV x.body] 172)).heap.size (w.alloc (.cells #[.int .i64 x.kind, .int .i64 x.next, strV x.body] 172)) w3 := ⟨hbT.os, hbT.tape, hbT.output, hbT.size, hbT.block⟩
  have bx3 := bx.below' hbT'
  have hlt3 := hbT'.size
  have hAt3 := HA1.out.below hbT'
  have hroom3 : spare = [] → n + 1 ≤ most := hnm
  go_must (refine (hT.out w3 hbT' hnm).mono ?_)
  rintro e w4 ⟨c', spare', rfl, hA4, hperm, hK4, hmb, hwb⟩
  have hEE := hE.out w4 c' spare' hA4 hperm
  obtain ⟨q1, q2, q3, q4, q5⟩ := hEE
  have hlt4 := hK4.keeps.size
  have hbig : w.heap.size < w3.heap.size := by simp at hlt3; omega
  have hnS : ¬ c.S p w.heap.size := fun hh => by have := HA.out.lt _ hh; omega
  have bx4 := bx3.keeps hK4.keeps hnS
  have gw7 : w4.cell? ⟨p, 7, none⟩ = some (.map (some c'.wb)) := hA4.blk.cell 7
  have hdl := fun ty => run_delete_I hA4.wwas (P := Tryz.prog) Tryz.underlying166 Tryz.underlying3 ty (nextI n spare)
  have hA5 := hA4.turnW (delE was (nextI n spare)) wc
  have gw5 : (turn w4 c'.wb (delE was (nextI n spare)) wc).cell? ⟨p, 5, none⟩ = some (.map (some c'.mb)) := hA5.blk.cell 5
  have y0 : (turn w4 c'.wb (delE was (nextI n spare)) wc).cell? ⟨w.heap.size, 0, none⟩ = some (.int .i64 x.kind) := (hA4.wwas.cell_turn _ _ _).trans (bx4.cell 0)
  have y1 : (turn w4 c'.wb (delE was (nextI n spare)) wc).cell? ⟨w.heap.size, 1, none⟩ = some (.int .i64 x.next) := (hA4.wwas.cell_turn _ _ _).trans (bx4.cell 1)
  have y2 : (turn w4 c'.wb (delE was (nextI n spare)) wc).cell? ⟨w.heap.size, 2, none⟩ = some (strV x.body) := (hA4.wwas.cell_turn _ _ _).trans (bx4.cell 2)
  have hup := run_update_I hA5.drew.mad (P := Tryz.prog) Tryz.underlying165 Tryz.underlying3 (nextI n spare) (pgV x)
  unfold pgV strB at hup
  have HEnd : Hid (MakeP p c most M made.length x w (.returned (.tuple #[.int .i64 (nextI n spare), .int .i64 0])) (turn (turn w4 c'.wb (delE was (nextI n spare)) wc).drew c'.mb (putE made (nextI n spare) (pgV x) mc) (clockE made (nextI n spare) mc))) := by
   have hk0 : PgK p c c w w3 := ⟨Keeps.of_below ((Below.refl _ w).alloc (Nat.le_refl _) _ |>.trans (hbT'.mono (by simp))), fun _ h => .inl h, rfl, rfl, rfl⟩
   have hk5 : PgK p c' c' w4 (turn w4 c'.wb (delE was (nextI n spare)) wc) := PgK.turn (.inr rfl) _ _
   have hk6 : PgK p c' c' (turn w4 c'.wb (delE was (nextI n spare)) wc) (turn w4 c'.wb (delE was (nextI n spare)) wc).drew := ⟨(Keeps.refl _ _).drew, fun _ h => .inl h, rfl, rfl, rfl⟩
   have hk7 : PgK p c' c' (turn w4 c'.wb (delE was (nextI n spare)) wc).drew (turn (turn w4 c'.wb (delE was (nextI n spare)) wc).drew c'.mb (putE made (nextI n spare) (pgV x) mc) (clockE made (nextI n spare) mc)) := PgK.turn (.inl rfl) _ _
   exact ⟨nextI n spare, c', rfl, q4, q2, by omega, q5.below (Below.refl _ _).drew, (((hk0.trans hK4).trans hk5).trans hk6).trans hk7⟩
  unfold pgV strB at HEnd
  clear hmb hwb hA4 hA5 hK4 q1 q4 q5 hT hE hS hN hAt3 hbT hbT' hroom3 HA1 HA HI HP
  go_wp2_with (fail)
  refine wRz ?_
  try simp only [lAz]
  refine tA 0 ?_; try simp only [lAz]
  refine tA 1 ?_; try simp only [lAz]
  refine tA 2 ?_; try simp only [lAz]
  refine tA 4 ?_; try simp only [lAz]
  refine wpAny_ready (rs := [3, 5]) (by kernel_rfl) (by simp) (aCz (fun K hK => ?_) (aCz (fun K hK => ?_) AllReady.nil))
  ·go_simp
   apply hK
   clear hK K
   refine rZz 5 fun K hK => ?_; go_simp; apply hK; clear hK K
   refine rZz 6 fun K hK => ?_; go_simp; apply hK; clear hK K
   refine wDz ?_
   go_wp2
   go_ret2
   exact HEnd.out
  ·go_simp
   apply hK
   clear hK K
   refine rZz 3 fun K hK => ?_; go_simp; apply hK; clear hK K
   refine rZz 6 fun K hK => ?_; go_simp; apply hK; clear hK K
   refine wDz ?_
   go_wp2
   go_ret2
   exact HEnd.out
end
end Go.Ev
