/-
  A page is read. A page is dropped.
-/
import Derived.Test.YtgfmhppkmogdhaaGreatDoorMBGwMake
import Derived.Laws.ResultCell
set_option linter.unusedVariables false
set_option linter.unusedSimpArgs false
set_option linter.unusedVariables false
set_option linter.unusedSimpArgs false
namespace Go.Ev
open Go.Proofs Go.RowKit

theorem zero_unit (W : World) : (zeroValue 177).run Tryz.prog W = .ok (.agg #[]) W := by kernel_rfl

theorem load_var {w : World} {t : TypeId} {b : Nat} (vs : List Value) (hB : rowB0 Tryz.prog t vs.length = true) (h : ∀ j u, vs[j]? = some u → w.cell? ⟨b, j, none⟩ = some u) : (loadVar t ⟨b, 0, none⟩).run Tryz.prog w = .ok (.agg vs.toArray) w := by
  have := load_cells (w := w) (t := t) (b := b) (o := 0) vs hB (fun j u hu => by rw [Nat.zero_add]; exact h j u hu)
  simpa only [Instr.loadAt, Instr.sureAddr, Sem.run_bind, Sem.run_pure, Result.andThen_ok] using this

/-- A result that lies in a block, and one in a slot. -/
theorem res_row {fn : Func} {p u : Tmp} {t : TypeId} {b : Nat} {tmps : Array Value} {w : World} {x : Value} (vs : List Value) (h : fn.results = #[.cell p t, .tmp u]) (hp : tmps.getD p undef = ptrV b) (hu : tmps.getD u undef = x) (hB : rowB0 Tryz.prog t vs.length = true) (hb : Blk w b t vs.toArray) :
    (results fn tmps).run Tryz.prog w = .ok (.tuple #[.agg vs.toArray, x]) w := by
  rw [results_cell_tmp h, hp]
  have := load_var (w := w) (t := t) (b := b) vs hB (fun j v hj => by rw [hb.cell j]; simpa using hj)
  simp only [asAddr, Sem.run_pure, Result.andThen_ok, this, hu]

section
variable {p : Nat} {c : Pc} {most cnt : Nat} {M : Store}

set_option maxHeartbeats 1000000 in
set_option maxRecDepth 100000 in
theorem read_some (id : Int) (x : Pg) (w : World) (h : PgOk w p c most M cnt) (hx : M id = some x) :
    Calls Tryz.prog 36 #[ptrV p, .int .i64 id] w fun e w' => e = .returned (.tuple #[.agg #[.int .i64 x.kind, .int .i64 x.next, strV x.body], .int .i64 0]) ∧ Below w.heap.size w w' := by
  obtain ⟨n, made, was, mc, wc, dc, spare, hA, hI, hP, rfl⟩ := h
  have hk : id ∈ keysE made := (hP.key id).2 (by rw [hx]; rfl)
  have hr := (hI.cover id).2 (.inl hk)
  obtain ⟨hr1, hr2⟩ := hr
  have hA1 := hA.alloc (.cells #[.int .i64 0, .int .i64 0, .string ⟨#[]⟩] 81)
  have g0 : (w.alloc (.cells #[.int .i64 0, .int .i64 0, .string ⟨#[]⟩] 81)).cell? ⟨p, 0, none⟩ = some (ptrV c.d) := hA1.blk.cell 0
  have g3 : (w.alloc (.cells #[.int .i64 0, .int .i64 0, .string ⟨#[]⟩] 81)).cell? ⟨p, 3, none⟩ = some (.int .i64 n) := hA1.blk.cell 3
  have g5 : (w.alloc (.cells #[.int .i64 0, .int .i64 0, .string ⟨#[]⟩] 81)).cell? ⟨p, 5, none⟩ = some (.map (some c.mb)) := hA1.blk.cell 5
  have hl := look_made hA1.mad hP id
  rw [hx] at hl
  simp only [Option.map_some, Option.getD_some, Option.isSome_some, pgV, strB] at hl
  clear hA hA1 hI hP hx hk
  go_enter Tryz.func36, Tryz.ntmps36
  go_wp2_with (fail)
  go_must (refine (pgNone_any _ _ _ g0).mono ?_)
  rintro e w1 ⟨rfl, rfl⟩
  go_wp2_with (fail)
  refine bodyPost_ret (res_row [.int .i64 x.kind, .int .i64 x.next, strV x.body] rfl rfl rfl (by kernel_rfl) (Blk.alloc (Blk.new _ _ _) _)) rfl ?_
  exact ⟨rfl, ((Below.refl _ _).alloc (Nat.le_refl _) _).alloc (by simp) _⟩

set_option maxHeartbeats 1000000 in
set_option maxRecDepth 100000 in
theorem read_none (id : Int) (w : World) (h : PgOk w p c most M cnt) (hx : M id = none) :
    Calls Tryz.prog 36 #[ptrV p, .int .i64 id] w fun e w' => ∃ k : Int, k ≠ 0 ∧ e = .returned (.tuple #[pgZ, .int .i64 k]) ∧ Below w.heap.size w w' := by
  obtain ⟨n, made, was, mc, wc, dc, spare, hA, hI, hP, rfl⟩ := h
  have hk : id ∉ keysE made := fun hm => by have := (hP.key id).1 hm; rw [hx] at this; cases this
  have hA1 := hA.alloc (.cells #[.int .i64 0, .int .i64 0, .string ⟨#[]⟩] 81)
  have g0 : (w.alloc (.cells #[.int .i64 0, .int .i64 0, .string ⟨#[]⟩] 81)).cell? ⟨p, 0, none⟩ = some (ptrV c.d) := hA1.blk.cell 0
  have g3 : (w.alloc (.cells #[.int .i64 0, .int .i64 0, .string ⟨#[]⟩] 81)).cell? ⟨p, 3, none⟩ = some (.int .i64 n) := hA1.blk.cell 3
  have hbz : Below w.heap.size w (w.alloc (.cells #[.int .i64 0, .int .i64 0, .string ⟨#[]⟩] 81)) := (Below.refl _ _).alloc (Nat.le_refl _) _
  by_cases hr1 : id < 2
  · clear hA hA1 hI hP hx hk
    go_enter Tryz.func36, Tryz.ntmps36
    go_wp2_with (fail)
    go_must (refine (pgNone_any _ _ _ g0).mono ?_)
    rintro e w1 ⟨rfl, rfl⟩
    go_wp2_with (fail)
    refine bodyPost_ret (res_row [.int .i64 0, .int .i64 0, .string ⟨#[]⟩] rfl rfl rfl (by kernel_rfl) (Blk.new _ _ _)) rfl ?_
    exact ⟨3, by decide, rfl, hbz⟩
  · by_cases hr2 : (n : Int) ≤ id
    · clear hA hA1 hI hP hx hk
      go_enter Tryz.func36, Tryz.ntmps36
      go_wp2_with (fail)
      go_must (refine (pgNone_any _ _ _ g0).mono ?_)
      rintro e w1 ⟨rfl, rfl⟩
      go_wp2_with (fail)
      refine bodyPost_ret (res_row [.int .i64 0, .int .i64 0, .string ⟨#[]⟩] rfl rfl rfl (by kernel_rfl) (Blk.new _ _ _)) rfl ?_
      exact ⟨3, by decide, rfl, hbz⟩
    · have hsp : id ∈ spare := by
        rcases (hI.cover id).1 ⟨by omega, by omega⟩ with h | h
        · exact absurd h hk
        · exact h
      have hws : id ∈ keysE was := (hI.wasS id).2 hsp
      have g5 : (w.alloc (.cells #[.int .i64 0, .int .i64 0, .string ⟨#[]⟩] 81)).cell? ⟨p, 5, none⟩ = some (.map (some c.mb)) := hA1.blk.cell 5
      have g6 : (w.alloc (.cells #[.int .i64 0, .int .i64 0, .string ⟨#[]⟩] 81)).cell? ⟨p, 6, none⟩ = some (.map (some c.db)) := hA1.blk.cell 6
      have g7 : (w.alloc (.cells #[.int .i64 0, .int .i64 0, .string ⟨#[]⟩] 81)).cell? ⟨p, 7, none⟩ = some (.map (some c.wb)) := hA1.blk.cell 7
      have hl := look_made hA1.mad hP id
      rw [hx] at hl
      simp only [Option.map_none, Option.getD_none, Option.isSome_none, pgZ] at hl
      have hpl := hA.blk.lt
      have hpl1 : p < w.heap.size + 1 := by omega
      have hpl2 : p < w.heap.size + 1 + 1 := by omega
      have hA2 := hA1.alloc (.cells #[.int .i64 0, .int .i64 0, .string ⟨#[]⟩] 81)
      have hl2 := run_lookup_I (P := Tryz.prog) hA2.dro Tryz.underlying151 Tryz.underlying3 zero_unit id
      simp only [getE, Option.getD_none, Option.isSome_none] at hl2
      have hA3 := hA2.alloc (.cells #[] 177)
      have hl3 := run_lookup_I (P := Tryz.prog) hA3.wwas Tryz.underlying151 Tryz.underlying3 zero_unit id
      obtain ⟨u, hu⟩ : ∃ u, getE was id = some u := Option.isSome_iff_exists.1 (getE_mem.2 hws)
      rw [hu, hI.wasV id u hu] at hl3
      simp only [Option.getD_some, Option.isSome_some] at hl3
      have hbe : Below w.heap.size w ((((w.alloc (.cells #[.int .i64 0, .int .i64 0, .string ⟨#[]⟩] 81)).alloc (.cells #[.int .i64 0, .int .i64 0, .string ⟨#[]⟩] 81)).alloc (.cells #[] 177)).alloc (.cells #[] 177)) := (((hbz.alloc (by simp) _).alloc (by simp; omega) _).alloc (by simp; omega) _)
      clear hA hA1 hA2 hA3 hI hP hx hk hsp hws hu
      go_enter Tryz.func36, Tryz.ntmps36
      go_wp2_with (fail)
      go_must (refine (pgNone_any _ _ _ g0).mono ?_)
      rintro e w1 ⟨rfl, rfl⟩
      go_wp2_with (fail)
      refine bodyPost_ret (res_row [.int .i64 0, .int .i64 0, .string ⟨#[]⟩] rfl rfl rfl (by kernel_rfl) (Blk.alloc (Blk.alloc (Blk.alloc (Blk.new _ _ _) _) _) _)) rfl ?_
      exact ⟨7, by decide, rfl, hbe⟩
end
end Go.Ev

set_option linter.unusedVariables false
set_option linter.unusedSimpArgs false
namespace Go.Ev
open Go.Proofs Go.RowKit

section
variable {p : Nat} {c : Pc} {most cnt : Nat} {M : Store}

set_option maxHeartbeats 1000000 in
theorem back_any {n : Nat} {made was : List Ent} {mc wc dc : Nat} {spare : List Int} (id : Int) (w : World) (h : PgAt w p c most n n made was mc wc dc spare) (h2 : 2 ≤ id) (hs : spare.length ≤ 700000) :
    Calls Tryz.prog 204 #[ptrV p, .int .i64 id] w fun e w' => e = .returned (.tuple #[]) ∧ ∃ v' ys, Pl w' c.sb v' ys ∧ ys.Perm (id :: spare) ∧ PlK c.sb c.sv v' w w' := by
  have g2 : w.cell? ⟨p, 2, none⟩ = some (.int .i64 2) := h.blk.cell 2
  have g8 : w.cell? ⟨p, 8, none⟩ = some (ptrV c.sb) := h.blk.cell 8
  have h2' : ¬ id < 2 := by omega
  have bn : Blk (w.alloc (.cells #[.int .i64 id] 3)) w.heap.size 3 #[.int .i64 id] := Blk.new _ _ _
  have hsl : Sl (w.alloc (.cells #[.int .i64 id] 3)) 1 (.slice (some ⟨w.heap.size, 0, none⟩) 1 1) 1 (intsV [id]) := by
    refine ⟨_, _, rfl, Nat.le_refl _, rfl, fun _ => ⟨w.heap.size, 0, rfl, by simp, fun j u hu => ?_⟩⟩
    rw [Nat.zero_add, bn.cell j]
    cases j with
    | zero => cases hu; rfl
    | succ j => simp [intsV] at hu
  have hlt := h.lt
  have hP := Lib.hid (pilePut_any c.sb c.sv spare [id] (some ⟨w.heap.size, 0, none⟩) 1 1 _ (h.alloc (.cells #[.int .i64 id] 3)).spr hsl (by
    intro a ha
    cases ha
    rintro (e | e)
    · have := hlt c.sb (.inl (by simp [Pc.ids])); have e' : w.heap.size = c.sb := e; omega
    · have := hlt w.heap.size (.inr (.inl e)); omega) (by omega))
  have HB : Hid (∀ (v' : Value) (w' : World), PlK c.sb c.sv v' (w.alloc (.cells #[.int .i64 id] 3)) w' → PlK c.sb c.sv v' w w') := (fun v' w' hk => by
    refine ⟨((Keeps.refl _ w).alloc _).trans hk.1 (fun _ _ h => h), fun k hk' => ?_⟩
    rcases hk.2 k hk' with h1 | h1
    · exact .inl h1
    · rw [alloc_size1] at h1; exact .inr (by omega))
  clear h hsl bn
  go_enter Tryz.func204, Tryz.ntmps204
  go_wp2_with (fail)
  go_must (refine hP.out.mono ?_)
  rintro e w1 ⟨rfl, v', ys, h3, h4, h5⟩
  go_wp2_with (fail)
  refine bodyPost_end (results_none rfl _ _ _) rfl ?_
  exact ⟨rfl, v', ys, h3, h4, HB.out _ _ h5⟩

def DropP (p : Nat) (c : Pc) (most : Nat) (M : Store) (cnt : Nat) (id : Int) (w : World) (e : Ending) (w' : World) : Prop :=
  e = .returned (.int .i64 0) ∧ ∃ c', PgOk w' p c' most (updS M id none) (cnt - 1) ∧ PgK p c c' w w'

set_option maxHeartbeats 1000000 in
set_option maxRecDepth 100000 in
theorem drop_any (id : Int) (x : Pg) (w : World) (h : PgOk w p c most M cnt) (hx : M id = some x) :
    Calls Tryz.prog 157 #[ptrV p, .int .i64 id] w (DropP p c most M cnt id w) := by
  have hRd := Lib.hid (read_some id x w h hx)
  obtain ⟨n, made, was, mc, wc, dc, spare, hA, hI, hP, rfl⟩ := h
  have hcount := hI.count
  obtain ⟨hsm1, hsm2⟩ := hA.dev.small
  have hsl : spare.length ≤ 700000 := by omega
  have hk : id ∈ keysE made := (hP.key id).2 (by rw [hx]; rfl)
  have h2 := ((hI.cover id).2 (.inl hk)).1
  have hgm : getE made id = some (pgV x) := by rw [hP id, hx]; rfl
  have HA := Lib.hid hA
  have HI := Lib.hid hI
  have HP := Lib.hid hP
  have hOwn := Lib.hid (fun W (hW : PgAt W p c most n n made was mc wc dc spare) => own_any id W hW hP)
  have HX := Lib.hid hx
  have HG := Lib.hid hgm
  clear hA hI hP hx hk hcount hgm
  go_enter Tryz.func157, Tryz.ntmps157
  go_wp2_with (fail)
  go_must (refine hRd.out.mono ?_)
  rintro e w1 ⟨rfl, hb1⟩
  go_wp2_with (fail)
  have hA1 := (HA.out.below hb1).alloc (.cells #[.int .i64 x.kind, .int .i64 x.next, strV x.body] 81)
  have hO := hOwn.out _ hA1
  rw [HX.out] at hO
  simp only [Option.isSome_some] at hO
  go_must (refine hO.mono ?_)
  rintro e w2 ⟨rfl, hb2⟩
  have hA2 := hA1.below hb2
  have g5 : w2.cell? ⟨p, 5, none⟩ = some (.map (some c.mb)) := hA2.blk.cell 5
  have hdl := fun ty => run_delete_I hA2.mad (P := Tryz.prog) Tryz.underlying166 Tryz.underlying3 ty id
  have hA3 := hA2.turnM (delE made id) mc
  have g7 : (turn w2 c.mb (delE made id) mc).cell? ⟨p, 7, none⟩ = some (.map (some c.wb)) := hA3.blk.cell 7
  have hup := run_update_I hA3.wwas (P := Tryz.prog) Tryz.underlying151 Tryz.underlying3 id (.agg #[])
  have hA4 := hA3.turnW (putE was id (.agg #[]) wc) (clockE was id wc)
  have hB := Lib.hid (back_any id _ hA4 h2 hsl)
  have hbb : Below w.heap.size w w2 := (hb1.alloc hb1.size _).trans (hb2.mono (by have := hb1.size; simp; omega))
  have HEnd : Hid (∀ w5 v' ys, Pl w5 c.sb v' ys → ys.Perm (id :: spare) → PlK c.sb c.sv v' (turn (turn w2 c.mb (delE made id) mc) c.wb (putE was id (.agg #[]) wc) (clockE was id wc)) w5 → DropP p c most M made.length id w (.returned (.int .i64 0)) w5) := by
    intro w5 v' ys q1 q2 q3
    refine ⟨rfl, { c with sv := v' }, ⟨n, _, _, _, _, _, ys, hA4.pile q1 q3, HI.out.drop HG.out q2 wc, HP.out.del HI.out.nodM id, ?_⟩, ?_⟩
    · have := len_del HG.out; omega
    · exact (((PgK.of_below hbb).trans (PgK.turn (.inl rfl) _ _)).trans (PgK.turn (.inr rfl) _ _)).trans (PgK.pile q3)
  clear hA1 hA2 hA3 hA4 HA HI HP hOwn HX HG hRd
  go_wp2_with (fail)
  go_must (refine hB.out.mono ?_)
  rintro e w5 ⟨rfl, v', ys, q1, q2, q3⟩
  go_wp2_with (fail)
  go_ret
  exact HEnd.out _ _ _ q1 q2 q3
end
end Go.Ev
