/-
  Texts of this claim.
-/
import Derived.Test.YtjdimpnonjjnaaaGreatDoorMGwMake
import Derived.Laws.ResultCell
set_option linter.unusedVariables false
set_option linter.unusedSimpArgs false
set_option maxHeartbeats 1000000
set_option maxRecDepth 100000
namespace Go.Ev
open Go.Proofs Go.RowKit
theorem load_var {w : World} {t : TypeId} {b : Nat} (vs : List Value) (hB : rowB0 Tryz.prog t vs.length = true) (h : ∀ j u, vs[j]? = some u → w.cell? ⟨b, j, none⟩ = some u) : (loadVar t ⟨b, 0, none⟩).run Tryz.prog w = .ok (.agg vs.toArray) w := by
 have := load_cells (w := w) (t := t) (b := b) (o := 0) vs hB (fun j u hu => by rw [Nat.zero_add]; exact h j u hu)
 simpa only [Instr.loadAt, Instr.sureAddr, Sem.run_bind, Sem.run_pure, Result.andThen_ok] using this
theorem res_row {fn : Func} {p u : Tmp} {t : TypeId} {b : Nat} {tmps : Array Value} {w : World} {x : Value} (vs : List Value) (h : fn.results = #[.cell p t, .tmp u]) (hp : tmps.getD p undef = ptrV b) (hu : tmps.getD u undef = x) (hB : rowB0 Tryz.prog t vs.length = true) (hb : Blk w b t vs.toArray) :
  (results fn tmps).run Tryz.prog w = .ok (.tuple #[.agg vs.toArray, x]) w := by
 rw [results_cell_tmp h, hp]
 have := load_var (w := w) (t := t) (b := b) vs hB (fun j v hj => by rw [hb.cell j]; simpa using hj)
 simp only [asAddr, Sem.run_pure, Result.andThen_ok, this, hu]
section
variable {p : Nat} {c : Pc} {most cnt : Nat} {M : Store}
theorem read_some (id : Int) (x : Pg) (w : World) (h : PgOk w p c most M cnt) (hx : M id = some x) :
  Calls Tryz.prog 94 #[ptrV p, .int .i64 id] w fun e w' => e = .returned (.tuple #[.agg #[.int .i64 x.kind, .int .i64 x.next, strV x.body], .int .i64 0]) ∧ Below w.heap.size w w' := by
 obtain ⟨n, made, was, mc, wc, dc, spare, hA, hI, hP, rfl⟩ := h
 have hk : id ∈ keysE made := (hP.key id).2 (by rw [hx]; rfl)
 have hr := (hI.cover id).2 (.inl hk)
 obtain ⟨hr1, hr2⟩ := hr
 have hA1 := hA.alloc (.cells #[.int .i64 0, .int .i64 0, .string ⟨#[]⟩] 172)
 have g0 : (w.alloc (.cells #[.int .i64 0, .int .i64 0, .string ⟨#[]⟩] 172)).cell? ⟨p, 0, none⟩ = some (ptrV c.d) := hA1.blk.cell 0
 have g3 : (w.alloc (.cells #[.int .i64 0, .int .i64 0, .string ⟨#[]⟩] 172)).cell? ⟨p, 3, none⟩ = some (.int .i64 n) := hA1.blk.cell 3
 have g5 : (w.alloc (.cells #[.int .i64 0, .int .i64 0, .string ⟨#[]⟩] 172)).cell? ⟨p, 5, none⟩ = some (.map (some c.mb)) := hA1.blk.cell 5
 have hl := look_made hA1.mad hP id
 rw [hx] at hl
 simp only [Option.map_some, Option.getD_some, Option.isSome_some, pgV, strB] at hl
 clear hA hA1 hI hP hx hk
 go_enter Tryz.func94, Tryz.ntmps94
 go_wp2_with (fail)
 go_must (refine (pgNone_any _ _ _ g0).mono ?_)
 rintro e w1 ⟨rfl, rfl⟩
 go_wp2_with (fail)
 refine bodyPost_ret (res_row [.int .i64 x.kind, .int .i64 x.next, strV x.body] rfl rfl rfl (by kernel_rfl) (Blk.alloc (Blk.new _ _ _) _)) rfl ?_
 exact ⟨rfl, ((Below.refl _ _).alloc (Nat.le_refl _) _).alloc (by simp) _⟩
end
section
variable {p : Nat} {c : Pc} {most cnt : Nat} {M : Store}
theorem back_any {n : Nat} {made was : List Ent} {mc wc dc : Nat} {spare : List Int} (id : Int) (w : World) (h : PgAt w p c most n n made was mc wc dc spare) (h2 : 2 ≤ id) (hs : spare.length ≤ 700000) :
  Calls Tryz.prog 96 #[ptrV p, .int .i64 id] w fun e w' => e = .returned (.tuple #[]) ∧ ∃ v' ys, Pl w' c.sb v' ys ∧ ys.Perm (id :: spare) ∧ PlK c.sb c.sv v' w w' := by
 have g2 : w.cell? ⟨p, 2, none⟩ = some (.int .i64 2) := h.blk.cell 2
 have g8 : w.cell? ⟨p, 8, none⟩ = some (ptrV c.sb) := h.blk.cell 8
 have h2' : ¬ id < 2 := by omega
 have bn : Blk (w.alloc (.cells #[.int .i64 id] 3)) w.heap.size 3 #[.int .i64 id] := Blk.new _ _ _
 have hsl : Sl (w.alloc (.cells #[.int .i64 id] 3)) 1 (.slice (some ⟨w.heap.size, 0, none⟩) 1 1) 1 (intsV [id]) := by
  refine ⟨_, _, rfl, Nat.le_refl _, rfl, fun _ => ⟨w.heap.size, 0, rfl, by simp, fun j u hu => ?_⟩⟩
  rw [Nat.zero_add, bn.cell j]
  cases j with
  | zero => cases hu; rfl
  | succ j => simp [intsV] at hu
 have hlt := h.lt
 have hP := Hdz (pilePut_any c.sb c.sv spare [id] (some ⟨w.heap.size, 0, none⟩) 1 1 _ (h.alloc (.cells #[.int .i64 id] 3)).spr hsl (by
  intro a ha
  cases ha
  rintro (e | e)
  ·have := hlt c.sb (.inl (by simp [Pc.ids])); have e' : w.heap.size = c.sb := e; omega
  ·have := hlt w.heap.size (.inr (.inl e)); omega) (by omega))
 have HB : Hid (∀ (v' : Value) (w' : World), PlK c.sb c.sv v' (w.alloc (.cells #[.int .i64 id] 3)) w' → PlK c.sb c.sv v' w w') := (fun v' w' hk => by
  refine ⟨((Keeps.refl _ w).alloc _).trans hk.1 (fun _ _ h => h), fun k hk' => ?_⟩
  rcases hk.2 k hk' with h1 | h1
  ·exact .inl h1
  ·rw [alloc_size1] at h1; exact .inr (by omega))
 clear h hsl bn
 go_enter Tryz.func96, Tryz.ntmps96
 go_wp2_with (fail)
 go_must (refine hP.out.mono ?_)
 rintro e w1 ⟨rfl, v', ys, h3, h4, h5⟩
 go_wp2_with (fail)
 refine bodyPost_end (results_none rfl _ _ _) rfl ?_
 exact ⟨rfl, v', ys, h3, h4, HB.out _ _ h5⟩
def DropP (p : Nat) (c : Pc) (most : Nat) (M : Store) (cnt : Nat) (id : Int) (w : World) (e : Ending) (w' : World) : Prop :=
 e = .returned (.int .i64 0) ∧ ∃ c', PgOk w' p c' most (updS M id none) (cnt - 1) ∧ PgK p c c' w w'
theorem drop_any (id : Int) (x : Pg) (w : World) (h : PgOk w p c most M cnt) (hx : M id = some x) :
  Calls Tryz.prog 49 #[ptrV p, .int .i64 id] w (DropP p c most M cnt id w) := by
 have hRd := Hdz (read_some id x w h hx)
 obtain ⟨n, made, was, mc, wc, dc, spare, hA, hI, hP, rfl⟩ := h
 have hcount := hI.count
 obtain ⟨hsm1, hsm2⟩ := hA.dev.small
 have hsl : spare.length ≤ 700000 := by omega
 have hk : id ∈ keysE made := (hP.key id).2 (by rw [hx]; rfl)
 have h2 := ((hI.cover id).2 (.inl hk)).1
 have hgm : getE made id = some (pgV x) := by rw [hP id, hx]; rfl
 have HA := Hdz hA
 have HI := Hdz hI
 have HP := Hdz hP
 have hOwn := Hdz (fun W (hW : PgAt W p c most n n made was mc wc dc spare) => own_any id W hW hP)
 have HX := Hdz hx
 have HG := Hdz hgm
 clear hA hI hP hx hk hcount hgm
 go_enter Tryz.func49, Tryz.ntmps49
 go_wp2_with (fail)
 go_must (refine hRd.out.mono ?_)
 rintro e w1 ⟨rfl, hb1⟩
 go_wp2_with (fail)
 have hA1 := (HA.out.below hb1).alloc (.cells #[.int .i64 x.kind, .int .i64 x.next, strV x.body] 172)
 have hO := hOwn.out _ hA1
 rw [HX.out] at hO
 simp only [Option.isSome_some] at hO
 go_must (refine hO.mono ?_)
 rintro e w2 ⟨rfl, hb2⟩
 have hA2 := hA1.below hb2
 have g5 : w2.cell? ⟨p, 5, none⟩ = some (.map (some c.mb)) := hA2.blk.cell 5
 have hdl := fun ty => run_delete_I hA2.mad (P := Tryz.prog) Tryz.underlying165 Tryz.underlying3 ty id
 have hA3 := hA2.turnM (delE made id) mc (hA2.clk.del _)
 have g7 : (turn w2 c.mb (delE made id) mc).cell? ⟨p, 7, none⟩ = some (.map (some c.wb)) := hA3.blk.cell 7
 have hup := run_update_I hA3.wwas (P := Tryz.prog) Tryz.underlying166 Tryz.underlying3 id (.agg #[])
 have hA4 := hA3.turnW (putE was id (.agg #[]) wc) (clockE was id wc)
 have hB := Hdz (back_any id _ hA4 h2 hsl)
 have hbb : Below w.heap.size w w2 := (hb1.alloc hb1.size _).trans (hb2.mono (by have := hb1.size; simp; omega))
 have HEnd : Hid (∀ w5 v' ys, Pl w5 c.sb v' ys → ys.Perm (id :: spare) → PlK c.sb c.sv v' (turn (turn w2 c.mb (delE made id) mc) c.wb (putE was id (.agg #[]) wc) (clockE was id wc)) w5 → DropP p c most M made.length id w (.returned (.int .i64 0)) w5) := by
  intro w5 v' ys q1 q2 q3
  refine ⟨rfl, { c with sv := v' }, ⟨n, _, _, _, _, _, ys, hA4.pile q1 q3, HI.out.drop HG.out q2 wc, HP.out.del HI.out.nodM id, ?_⟩, ?_⟩
  ·have := len_del HG.out; omega
  ·exact (((PgK.of_below hbb).trans (PgK.turn (.inl rfl) _ _)).trans (PgK.turn (.inr rfl) _ _)).trans (PgK.pile q3)
 clear hA1 hA2 hA3 hA4 HA HI HP hOwn HX HG hRd
 go_wp2_with (fail)
 go_must (refine hB.out.mono ?_)
 rintro e w5 ⟨rfl, v', ys, q1, q2, q3⟩
 go_wp2_with (fail)
 go_ret
 exact HEnd.out _ _ _ q1 q2 q3
end
theorem ChainAt.pos {M : Store} {id : Int} {v : Bytes} {ids : List Int} (h : ChainAt M id v ids) : 1 ≤ v.length := by
 cases h with
 | last _ h1 _ => exact h1
 | more _ h1 _ _ => rw [List.length_append]; omega
theorem ChainAt.head {M : Store} {id : Int} {v : Bytes} {ids : List Int} (h : ChainAt M id v ids) :
  (M id = some ⟨4, 0, v⟩ ∧ v.length ≤ 240 ∧ ids = [id]) ∨ ∃ next b rest r, M id = some ⟨4, next, b⟩ ∧ b.length = 240 ∧ next ≠ 0 ∧ v = b ++ rest ∧ ids = id :: r ∧ ChainAt M next rest r := by
 cases h with
 | last h1 h2 h3 => exact .inl ⟨h1, h3, rfl⟩
 | more h1 h2 h3 h4 => exact .inr ⟨_, _, _, _, h1, h2, h3, rfl, rfl, h4⟩
theorem bd_len {w : World} {B b : Nat} {F : Option Nat} {l : Bytes} (h : Bd w B b F l) :
  Calls Tryz.prog 70 #[.pointer (some ⟨b, 0, none⟩)] w fun e w' => e = .returned (.int .i64 l.length) ∧ w = w' := by
 obtain ⟨hB, p, v, hp, hbk, hown, hF, hne⟩ := h
 obtain ⟨A, n, c, rfl⟩ : ∃ A n c, v = .slice A n c := by
  rcases hown.2 with ⟨rfl, _⟩ | ⟨g, cap, cur, fz, rfl, _⟩
  ·exact ⟨_, _, _, rfl⟩
  ·exact ⟨_, _, _, rfl⟩
 have hn : n = l.length := by
  rcases hown.2 with ⟨h1, h2⟩ | ⟨g, cap, cur, fz, h1, _⟩
  ·simp only [Value.slice.injEq] at h1; omega
  ·simp only [Value.slice.injEq] at h1; exact h1.2.1
 have c1 : w.cell? ⟨b, 1, none⟩ = some (.slice A n c) := by rw [cell_of_row w b 1 _ _ (0, 0) hbk]; rfl
 go_enter Tryz.func70, Tryz.ntmps70
 go_wp2
 go_ret
 exact ⟨rfl, rfl⟩
theorem own_not_bd {w : World} {B b base n : Nat} {F : Option Nat} {l : Bytes} {v : Value} {xs : List Value} (h : Bd w B b F l) (ho : w.ownsRow base 3 1 v n xs) : ∀ k, v.ownBlock = some k → ¬ BdS b F k := by
 intro k hk
 rcases ho.2 with ⟨rfl, _⟩ | ⟨g, cap, cur, rfl, _, hg, _⟩
 ·cases hk
 ·simp only [Value.ownBlock, Option.some.injEq] at hk
  subst hk
  rintro (e | e)
  ·obtain ⟨_, p, v, _, hbk, _⟩ := h
   rw [e, hbk] at hg
   simp at hg
  ·obtain ⟨_, p, v, _, hbk, hown, hF, _⟩ := h
   rw [← hF] at e
   rcases hown.2 with ⟨rfl, _⟩ | ⟨g', cap', cur', fz, rfl, _, hg', _⟩
   ·cases e
   ·simp only [Value.ownBlock, Option.some.injEq] at e
    rw [e, hg'] at hg
    simp at hg
section
variable {p : Nat} {c : Pc} {most cnt : Nat} {M : Store}
def WalkP (v : Bytes) (ids : List Int) (w : World) (e : Ending) (w' : World) : Prop := ∃ r, e = .returned (.tuple #[r, strV v, .int .i64 0]) ∧ w'.ownsRow w.heap.size 3 1 r ids.length (intsV ids) ∧ Below w.heap.size w w'
theorem walk_ok (id : Int) (v : Bytes) (ids : List Int) (w : World) (h : PgOk w p c most M cnt) (hc : ChainAt M id v ids) (hv : v.length ≤ 2000) (hidsl : ids.length ≤ 2000) :
  Calls Tryz.prog 149 #[ptrV p, .int .i64 id, .int .i64 v.length] w (WalkP v ids w) := by
 obtain ⟨i0, hi, hz0, hz1, hz2⟩ := info_parts infoInt
 have hpos := hc.pos
 have hnl : ¬ ((v.length : Int) < 1) := by omega
 have hnm : ¬ (2000 < (v.length : Int)) := by omega
 go_enter Tryz.func149, Tryz.ntmps149
 go_wp2
 go_loopg [9, 11] ids.length (fun gk s9 s11 wr => ∃ (done rest : Bytes) (d1 r1 : List Int) (cur : Int) (F : Option Nat), s11 = .int .i64 cur ∧ r1.length ≤ gk ∧ Hid (v = done ++ rest) ∧ Hid (ids = d1 ++ r1) ∧ Hid (ChainAt M cur rest r1) ∧ Bd wr w.heap.size w.heap.size F done ∧ wr.ownsRow w.heap.size 3 1 s9 d1.length (intsV d1) ∧ Below w.heap.size w wr)
 case atStart => exact ⟨[], v, [], ids, id, none, rfl, Nat.le_refl _, rfl, rfl, hc, Bd.new w, World.ownsRow_nil _ _ _ _, (Below.refl _ _).alloc (Nat.le_refl _) _⟩
 case round =>
  obtain ⟨done, rest, d1, r1, cur, F, rfl, hg, hv1, hi1, hc1, hB, hown, hb⟩ := hrel
  have hpg := h.below hb
  have hBlt := hB.lt
  rcases hc1.out.head with ⟨hm, hle0, hids⟩ | ⟨next, bs, rest', r, hm, hbl, hn0, hrest, hids, hc2⟩
  ·clear hc1
   have hne : done ++ rest ≠ [] := by intro e; have := congrArg List.length e; rw [← hv1.out, List.length_nil] at this; omega
   have HIds : Hid (ids = d1 ++ [cur]) := by show _ = _; rw [hi1.out, hids]
   have HX := Hdz (read_some cur ⟨4, 0, rest⟩ wr hpg hm)
   have hz := hb.size
   have hvl : v.length = done.length + rest.length := by rw [hv1.out, List.length_append]
   have hil : ids.length = d1.length + r1.length := by rw [hi1.out, List.length_append]
   have hr1p : 1 ≤ r1.length := by rw [hids]; simp
   have hidl : ids.length ≤ 2000 := hidsl
   have e1 : (v.length : Int) - (done.length : Int) = (rest.length : Int) := by omega
   have hBl : done.length ≤ 2000 := by omega
   have hd1 : d1.length ≤ 2000 := by omega
   have hdr : done.length + rest.length ≤ 2000 := by omega
   have e2 : min (rest.length : Int) 240 = (rest.length : Int) := by omega
   have hle : (rest.length : Int) ≤ 240 := by omega
   have HV := Hdz hv1
   have hvlB := Hdz hvl
   have hilB := Hdz hil
   clear hm hvl hil hids
   go_wp2_with (fail)
   go_must (refine HX.out.mono ?_)
   rintro e w1 ⟨rfl, hb1⟩
   have hs1 := hb1.size
   have hsw1 : w.heap.size ≤ w1.heap.size := by omega
   have hB1 := (hB.below hb1).alloc (.cells #[.int .i64 4, .int .i64 0, strV rest] 172)
   have own1 := (own_below hown hb1).alloc (.cells #[.int .i64 4, .int .i64 0, strV rest] 172)
   have bx1 : Blk (w1.alloc (.cells #[.int .i64 4, .int .i64 0, strV rest] 172)) w1.heap.size 172 #[.int .i64 4, .int .i64 0, strV rest] := Blk.new _ _ _
   have x0 : (w1.alloc (.cells #[.int .i64 4, .int .i64 0, strV rest] 172)).cell? ⟨w1.heap.size, 0, none⟩ = some (.int .i64 4) := bx1.cell 0
   have x1 : (w1.alloc (.cells #[.int .i64 4, .int .i64 0, strV rest] 172)).cell? ⟨w1.heap.size, 1, none⟩ = some (.int .i64 0) := bx1.cell 1
   have x2 : (w1.alloc (.cells #[.int .i64 4, .int .i64 0, strV rest] 172)).cell? ⟨w1.heap.size, 2, none⟩ = some (strV rest) := bx1.cell 2
   have hbW : Below w.heap.size w (w1.alloc (.cells #[.int .i64 4, .int .i64 0, strV rest] 172)) := (hb.trans (hb1.mono hz)).alloc (by omega) _
   go_wp2_with (fail)
   go_must (refine (bd_len hB1).mono ?_)
   rintro e w2 ⟨rfl, rfl⟩
   go_wp2_with (fail)
   go_must (refine (bw_string hB1 rest (by omega) (by simp; omega)).mono ?_)
   rintro e w3 ⟨rfl, ⟨F3, hB3⟩, K3⟩
   have own3 := own_keeps own1 K3 (own_not_bd hB1 own1)
   have hbb3 : w1.heap.size ≠ w.heap.size := by omega
   have bx3 := bx1.keeps K3 (hB1.not bx1 (by decide) hbb3)
   have x31 : w3.cell? ⟨w1.heap.size, 1, none⟩ = some (.int .i64 0) := bx3.cell 1
   have hbW3 : Below w.heap.size w w3 := hbW.trans (hB1.below_of K3 (by simp; omega))
   have hs3 := hbW3.size
   have hbx := bx3.lt
   go_wp2_with (at_builtin; go_must (refine wpList_append_own _ rfl _ _ 29 rfl w.heap.size 3 i0 _ 1 8 Tryz.underlying29 hi hz0 hz1 hz2 rfl (by decide) _ d1.length (intsV d1) rfl (own3.alloc _) ⟨w3.heap.size, 0, none⟩ 1 1 [.int .i64 cur] rfl rfl (row_newS _ _ _ _ rfl) (by simp [Value.oneCell']) (by unfold maxLen; omega) (by omega) (by simp; omega) ?_))
   intro v4 w4 own4 hg4 _
   have K4 : Keeps (fun k => _ = some k) w3 w4 := ((Keeps.refl (fun k => _ = some k) _).alloc _).grown hg4 (fun k hk _ => hk)
   have hB4 := hB3.keeps K4 (fun e => own_not_bd hB3 own3 _ e (.inl rfl)) (fun k hk e => own_not_bd hB3 own3 _ e (.inr hk.symm))
   have bx4 := bx3.keeps K4 (fun e => own_ne own3 bx3 (by decide) _ e rfl)
   have x41 : w4.cell? ⟨w1.heap.size, 1, none⟩ = some (.int .i64 0) := bx4.cell 1
   have hbW4 : Below w.heap.size w w4 := hbW3.trans (K4.below hs3 (fun i hi hk => by have := (own3.lt i hk).1; omega))
   have own4' : w4.ownsRow w.heap.size 3 1 v4 (d1 ++ [cur]).length (intsV (d1 ++ [cur])) := by rw [intsV_snoc, List.length_append]; exact own4
   have HO4 := Hdz own4'
   clear own4 own4'
   go_wp2_with (fail)
   go_must (refine (bw_text_ne hB4 hne).mono ?_)
   rintro e w5 ⟨rfl, _, K5⟩
   go_wp2_with (fail)
   refine bodyPost_ret (v := .tuple #[v4, strV (done ++ rest), .int .i64 0]) (by simp [results, Tryz.results149, go_sem]) rfl ?_
   have own5 := own_keeps HO4.out K5 (own_not_bd hB4 HO4.out)
   refine ⟨v4, by rw [HV.out], ?_, hbW4.trans (hB4.below_of K5 hbW4.size)⟩
   rw [HIds.out]
   exact own5
  ·have hrp := hc2.pos
   have HC2 := Hdz hc2
   have hrl : rest.length = bs.length + rest'.length := by rw [hrest, List.length_append]
   have HI2 : Hid (ids = (d1 ++ [cur]) ++ r) := by show _ = _; rw [hi1.out, hids]; simp
   have hv1 : Hid (v = done ++ (bs ++ rest')) := by show _ = _; rw [hv1.out, hrest]
   have hrr : r.length < gk := by rw [hids] at hg; simp at hg; omega
   have hrl2 : rest.length = 240 + rest'.length := by omega
   subst hrest
   obtain ⟨rl, hrl3, hrl4⟩ : ∃ rl, rl ≤ (bs ++ rest').length ∧ (bs ++ rest').length ≤ rl := ⟨_, Nat.le_refl _, Nat.le_refl _⟩
   clear hc1 hc2 hrl
   have HX := Hdz (read_some cur ⟨4, next, bs⟩ wr hpg hm)
   have hz := hb.size
   have hvl : v.length = done.length + (bs ++ rest').length := by rw [hv1.out, List.length_append]
   have hil : ids.length = d1.length + r1.length := by rw [hi1.out, List.length_append]
   have hr1p : 1 ≤ r1.length := by rw [hids]; simp
   have hidl : ids.length ≤ 2000 := hidsl
   have e1 : (v.length : Int) - (done.length : Int) = (rl : Int) := by omega
   have hBl : done.length ≤ 2000 := by omega
   have hd1 : d1.length ≤ 2000 := by omega
   have hdr : done.length + bs.length ≤ 2000 := by omega
   have e2 : min (rl : Int) 240 = 240 := by omega
   have e3 : (bs.length : Int) = 240 := by omega
   have hle : ¬ (rl : Int) ≤ 240 := by omega
   have hnx : (next == 0) = false := by simpa using hn0
   have HV := Hdz hv1
   have hvlB := Hdz hvl
   have hrlB := Hdz hrl2
   clear hrl2 hrl3 hrl4
   have hilB := Hdz hil
   clear hm hvl hil hids
   go_wp2_with (fail)
   go_must (refine HX.out.mono ?_)
   rintro e w1 ⟨rfl, hb1⟩
   have hs1 := hb1.size
   have hsw1 : w.heap.size ≤ w1.heap.size := by omega
   have hB1 := (hB.below hb1).alloc (.cells #[.int .i64 4, .int .i64 next, strV bs] 172)
   have own1 := (own_below hown hb1).alloc (.cells #[.int .i64 4, .int .i64 next, strV bs] 172)
   have bx1 : Blk (w1.alloc (.cells #[.int .i64 4, .int .i64 next, strV bs] 172)) w1.heap.size 172 #[.int .i64 4, .int .i64 next, strV bs] := Blk.new _ _ _
   have x0 : (w1.alloc (.cells #[.int .i64 4, .int .i64 next, strV bs] 172)).cell? ⟨w1.heap.size, 0, none⟩ = some (.int .i64 4) := bx1.cell 0
   have x1 : (w1.alloc (.cells #[.int .i64 4, .int .i64 next, strV bs] 172)).cell? ⟨w1.heap.size, 1, none⟩ = some (.int .i64 next) := bx1.cell 1
   have x2 : (w1.alloc (.cells #[.int .i64 4, .int .i64 next, strV bs] 172)).cell? ⟨w1.heap.size, 2, none⟩ = some (strV bs) := bx1.cell 2
   have hbW : Below w.heap.size w (w1.alloc (.cells #[.int .i64 4, .int .i64 next, strV bs] 172)) := (hb.trans (hb1.mono hz)).alloc (by omega) _
   go_wp2_with (fail)
   go_must (refine (bd_len hB1).mono ?_)
   rintro e w2 ⟨rfl, rfl⟩
   go_wp2_with (fail)
   go_must (refine (bw_string hB1 bs (by omega) (by simp; omega)).mono ?_)
   rintro e w3 ⟨rfl, ⟨F3, hB3⟩, K3⟩
   have own3 := own_keeps own1 K3 (own_not_bd hB1 own1)
   have hbb3 : w1.heap.size ≠ w.heap.size := by omega
   have bx3 := bx1.keeps K3 (hB1.not bx1 (by decide) hbb3)
   have x31 : w3.cell? ⟨w1.heap.size, 1, none⟩ = some (.int .i64 next) := bx3.cell 1
   have hbW3 : Below w.heap.size w w3 := hbW.trans (hB1.below_of K3 (by simp; omega))
   have hs3 := hbW3.size
   have hbx := bx3.lt
   go_wp2_with (at_builtin; go_must (refine wpList_append_own _ rfl _ _ 29 rfl w.heap.size 3 i0 _ 1 8 Tryz.underlying29 hi hz0 hz1 hz2 rfl (by decide) _ d1.length (intsV d1) rfl (own3.alloc _) ⟨w3.heap.size, 0, none⟩ 1 1 [.int .i64 cur] rfl rfl (row_newS _ _ _ _ rfl) (by simp [Value.oneCell']) (by unfold maxLen; omega) (by omega) (by simp; omega) ?_))
   intro v4 w4 own4 hg4 _
   have K4 : Keeps (fun k => _ = some k) w3 w4 := ((Keeps.refl (fun k => _ = some k) _).alloc _).grown hg4 (fun k hk _ => hk)
   have hB4 := hB3.keeps K4 (fun e => own_not_bd hB3 own3 _ e (.inl rfl)) (fun k hk e => own_not_bd hB3 own3 _ e (.inr hk.symm))
   have bx4 := bx3.keeps K4 (fun e => own_ne own3 bx3 (by decide) _ e rfl)
   have x41 : w4.cell? ⟨w1.heap.size, 1, none⟩ = some (.int .i64 next) := bx4.cell 1
   have hbW4 : Below w.heap.size w w4 := hbW3.trans (K4.below hs3 (fun i hi hk => by have := (own3.lt i hk).1; omega))
   have own4' : w4.ownsRow w.heap.size 3 1 v4 (d1 ++ [cur]).length (intsV (d1 ++ [cur])) := by rw [intsV_snoc, List.length_append]; exact own4
   have HO4 := Hdz own4'
   clear own4 own4'
   go_wp2_with (fail)
   go_roundg r.length
   case measure => omega
   case rel => exact ⟨done ++ bs, rest', d1 ++ [cur], r, next, F3, rfl, Nat.le_refl _, by show _ = _; rw [HV.out]; simp, HI2, HC2, hB4, HO4.out, hbW4⟩
end
end Go.Ev
