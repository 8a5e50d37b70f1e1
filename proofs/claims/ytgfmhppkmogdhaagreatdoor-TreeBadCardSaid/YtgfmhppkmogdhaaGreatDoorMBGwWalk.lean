/-
  A chain of pages is walked.
-/
import Derived.Test.YtgfmhppkmogdhaaGreatDoorMBGwDrop
set_option linter.unusedVariables false
set_option linter.unusedSimpArgs false
set_option linter.unusedVariables false
set_option linter.unusedSimpArgs false
namespace Go.Ev
open Go.Proofs Go.RowKit

theorem ChainAt.pos {M : Store} {id : Int} {v : Bytes} {ids : List Int} (h : ChainAt M id v ids) : 1 ≤ v.length := by
  cases h with
  | last _ h1 _ => exact h1
  | more _ h1 _ _ => rw [List.length_append]; omega

/-- What stands first in a chain. -/
theorem ChainAt.head {M : Store} {id : Int} {v : Bytes} {ids : List Int} (h : ChainAt M id v ids) :
    (M id = some ⟨4, 0, v⟩ ∧ v.length ≤ 240 ∧ ids = [id]) ∨ ∃ next b rest r, M id = some ⟨4, next, b⟩ ∧ b.length = 240 ∧ next ≠ 0 ∧ v = b ++ rest ∧ ids = id :: r ∧ ChainAt M next rest r := by
  cases h with
  | last h1 h2 h3 => exact .inl ⟨h1, h3, rfl⟩
  | more h1 h2 h3 h4 => exact .inr ⟨_, _, _, _, h1, h2, h3, rfl, rfl, h4⟩

theorem bd_len {w : World} {B b : Nat} {F : Option Nat} {l : Bytes} (h : Bd w B b F l) :
    Calls Tryz.prog 182 #[.pointer (some ⟨b, 0, none⟩)] w fun e w' => e = .returned (.int .i64 l.length) ∧ w = w' := by
  obtain ⟨hB, p, v, hp, hbk, hown, hF, hne⟩ := h
  obtain ⟨A, n, c, rfl⟩ : ∃ A n c, v = .slice A n c := by
    rcases hown.2 with ⟨rfl, _⟩ | ⟨g, cap, cur, fz, rfl, _⟩
    · exact ⟨_, _, _, rfl⟩
    · exact ⟨_, _, _, rfl⟩
  have hn : n = l.length := by
    rcases hown.2 with ⟨h1, h2⟩ | ⟨g, cap, cur, fz, h1, _⟩
    · simp only [Value.slice.injEq] at h1; omega
    · simp only [Value.slice.injEq] at h1; exact h1.2.1
  have c1 : w.cell? ⟨b, 1, none⟩ = some (.slice A n c) := by rw [cell_of_row w b 1 _ _ (0, 0) hbk]; rfl
  go_enter Tryz.func182, Tryz.ntmps182
  go_wp2
  go_ret
  exact ⟨rfl, rfl⟩

/-- A row of numbers is no part of a builder. -/
theorem own_not_bd {w : World} {B b base n : Nat} {F : Option Nat} {l : Bytes} {v : Value} {xs : List Value} (h : Bd w B b F l) (ho : w.ownsRow base 3 1 v n xs) : ∀ k, v.ownBlock = some k → ¬ BdS b F k := by
  intro k hk
  rcases ho.2 with ⟨rfl, _⟩ | ⟨g, cap, cur, rfl, _, hg, _⟩
  · cases hk
  · simp only [Value.ownBlock, Option.some.injEq] at hk
    subst hk
    rintro (e | e)
    · obtain ⟨_, p, v, _, hbk, _⟩ := h
      rw [e, hbk] at hg
      simp at hg
    · obtain ⟨_, p, v, _, hbk, hown, hF, _⟩ := h
      rw [← hF] at e
      rcases hown.2 with ⟨rfl, _⟩ | ⟨g', cap', cur', fz, rfl, _, hg', _⟩
      · cases e
      · simp only [Value.ownBlock, Option.some.injEq] at e
        rw [e, hg'] at hg
        simp at hg

section
variable {p : Nat} {c : Pc} {most cnt : Nat} {M : Store}

def WalkP (v : Bytes) (ids : List Int) (w : World) (e : Ending) (w' : World) : Prop := ∃ r, e = .returned (.tuple #[r, strV v, .int .i64 0]) ∧ w'.ownsRow w.heap.size 3 1 r ids.length (intsV ids) ∧ Below w.heap.size w w'

set_option maxHeartbeats 1000000 in
set_option maxRecDepth 100000 in
theorem walk_ok (id : Int) (v : Bytes) (ids : List Int) (w : World) (h : PgOk w p c most M cnt) (hc : ChainAt M id v ids) (hv : v.length ≤ 2000) (hidsl : ids.length ≤ 2000) :
    Calls Tryz.prog 196 #[ptrV p, .int .i64 id, .int .i64 v.length] w (WalkP v ids w) := by
  obtain ⟨i0, hi, hz0, hz1, hz2⟩ := info_parts infoInt
  have hpos := hc.pos
  have hnl : ¬ ((v.length : Int) < 1) := by omega
  have hnm : ¬ (2000 < (v.length : Int)) := by omega
  go_enter Tryz.func196, Tryz.ntmps196
  go_wp2
  go_loopg [9, 11] ids.length (fun gk s9 s11 wr => ∃ (done rest : Bytes) (d1 r1 : List Int) (cur : Int) (F : Option Nat), s11 = .int .i64 cur ∧ r1.length ≤ gk ∧ Hid (v = done ++ rest) ∧ Hid (ids = d1 ++ r1) ∧ Hid (ChainAt M cur rest r1) ∧ Bd wr w.heap.size w.heap.size F done ∧ wr.ownsRow w.heap.size 3 1 s9 d1.length (intsV d1) ∧ Below w.heap.size w wr)
  case atStart => exact ⟨[], v, [], ids, id, none, rfl, Nat.le_refl _, rfl, rfl, hc, Bd.new w, World.ownsRow_nil _ _ _ _, (Below.refl _ _).alloc (Nat.le_refl _) _⟩
  case round =>
    obtain ⟨done, rest, d1, r1, cur, F, rfl, hg, hv1, hi1, hc1, hB, hown, hb⟩ := hrel
    have hpg := h.below hb
    have hBlt := hB.lt
    rcases hc1.out.head with ⟨hm, hle0, hids⟩ | ⟨next, bs, rest', r, hm, hbl, hn0, hrest, hids, hc2⟩
    · clear hc1
      have hne : done ++ rest ≠ [] := by intro e; have := congrArg List.length e; rw [← hv1.out, List.length_nil] at this; omega
      have HIds : Hid (ids = d1 ++ [cur]) := by show _ = _; rw [hi1.out, hids]
      have HX := Lib.hid (read_some cur ⟨4, 0, rest⟩ wr hpg hm)
      have hz := hb.size
      have hvl : v.length = done.length + rest.length := by rw [hv1.out, List.length_append]
      have hil : ids.length = d1.length + r1.length := by rw [hi1.out, List.length_append]
      have hr1p : 1 ≤ r1.length := by rw [hids]; simp
      have hidl : ids.length ≤ 2000 := hidsl
      have e1 : (v.length : Int) - (done.length : Int) = (rest.length : Int) := by omega
      have hBl : done.length ≤ 2000 := by omega
      have hd1 : d1.length ≤ 2000 := by omega
      have hdr : done.length + rest.length ≤ 2000 := by omega
      have e2 : min (rest.length : Int) 240 = (rest.length : Int) := by omega
      have hle : (rest.length : Int) ≤ 240 := by omega
      have HV := Lib.hid hv1
      have hvlB := Lib.hid hvl
      have hilB := Lib.hid hil
      clear hm hvl hil hids
      go_wp2_with (fail)
      go_must (refine HX.out.mono ?_)
      rintro e w1 ⟨rfl, hb1⟩
      have hs1 := hb1.size
      have hsw1 : w.heap.size ≤ w1.heap.size := by omega
      have hB1 := (hB.below hb1).alloc (.cells #[.int .i64 4, .int .i64 0, strV rest] 81)
      have own1 := (own_below hown hb1).alloc (.cells #[.int .i64 4, .int .i64 0, strV rest] 81)
      have bx1 : Blk (w1.alloc (.cells #[.int .i64 4, .int .i64 0, strV rest] 81)) w1.heap.size 81 #[.int .i64 4, .int .i64 0, strV rest] := Blk.new _ _ _
      have x0 : (w1.alloc (.cells #[.int .i64 4, .int .i64 0, strV rest] 81)).cell? ⟨w1.heap.size, 0, none⟩ = some (.int .i64 4) := bx1.cell 0
      have x1 : (w1.alloc (.cells #[.int .i64 4, .int .i64 0, strV rest] 81)).cell? ⟨w1.heap.size, 1, none⟩ = some (.int .i64 0) := bx1.cell 1
      have x2 : (w1.alloc (.cells #[.int .i64 4, .int .i64 0, strV rest] 81)).cell? ⟨w1.heap.size, 2, none⟩ = some (strV rest) := bx1.cell 2
      have hbW : Below w.heap.size w (w1.alloc (.cells #[.int .i64 4, .int .i64 0, strV rest] 81)) := (hb.trans (hb1.mono hz)).alloc (by omega) _
      go_wp2_with (fail)
      go_must (refine (bd_len hB1).mono ?_)
      rintro e w2 ⟨rfl, rfl⟩
      go_wp2_with (fail)
      go_must (refine (bw_string hB1 rest (by omega) (by simp; omega)).mono ?_)
      rintro e w3 ⟨rfl, ⟨F3, hB3⟩, K3⟩
      have own3 := own_keeps own1 K3 (own_not_bd hB1 own1)
      have hbb3 : w1.heap.size ≠ w.heap.size := by omega
      have bx3 := bx1.keeps K3 (hB1.not bx1 (by decide) hbb3)
      have x31 : w3.cell? ⟨w1.heap.size, 1, none⟩ = some (.int .i64 0) := bx3.cell 1
      have hbW3 : Below w.heap.size w w3 := hbW.trans (hB1.below_of K3 (by simp; omega))
      have hs3 := hbW3.size
      have hbx := bx3.lt
      go_wp2_with (at_builtin; go_must (refine wpList_append_own _ rfl _ _ 89 rfl w.heap.size 3 i0 _ 1 8 Tryz.underlying89 hi hz0 hz1 hz2 rfl (by decide) _ d1.length (intsV d1) rfl (own3.alloc _) ⟨w3.heap.size, 0, none⟩ 1 1 [.int .i64 cur] rfl rfl (row_newS _ _ _ _ rfl) (by simp [Value.oneCell']) (by unfold maxLen; omega) (by omega) (by simp; omega) ?_))
      intro v4 w4 own4 hg4 _
      have K4 : Keeps (fun k => _ = some k) w3 w4 := ((Keeps.refl (fun k => _ = some k) _).alloc _).grown hg4 (fun k hk _ => hk)
      have hB4 := hB3.keeps K4 (fun e => own_not_bd hB3 own3 _ e (.inl rfl)) (fun k hk e => own_not_bd hB3 own3 _ e (.inr hk.symm))
      have bx4 := bx3.keeps K4 (fun e => own_ne own3 bx3 (by decide) _ e rfl)
      have x41 : w4.cell? ⟨w1.heap.size, 1, none⟩ = some (.int .i64 0) := bx4.cell 1
      have hbW4 : Below w.heap.size w w4 := hbW3.trans (K4.below hs3 (fun i hi hk => by have := (own3.lt i hk).1; omega))
      have own4' : w4.ownsRow w.heap.size 3 1 v4 (d1 ++ [cur]).length (intsV (d1 ++ [cur])) := by rw [intsV_snoc, List.length_append]; exact own4
      have HO4 := Lib.hid own4'
      clear own4 own4'
      go_wp2_with (fail)
      go_must (refine (bw_text_ne hB4 hne).mono ?_)
      rintro e w5 ⟨rfl, _, K5⟩
      go_wp2_with (fail)
      refine bodyPost_ret (v := .tuple #[v4, strV (done ++ rest), .int .i64 0]) (by simp [results, Tryz.results196, go_sem]) rfl ?_
      have own5 := own_keeps HO4.out K5 (own_not_bd hB4 HO4.out)
      refine ⟨v4, by rw [HV.out], ?_, hbW4.trans (hB4.below_of K5 hbW4.size)⟩
      rw [HIds.out]
      exact own5
    · have hrp := hc2.pos
      have HC2 := Lib.hid hc2
      have hrl : rest.length = bs.length + rest'.length := by rw [hrest, List.length_append]
      have HI2 : Hid (ids = (d1 ++ [cur]) ++ r) := by show _ = _; rw [hi1.out, hids]; simp
      have hv1 : Hid (v = done ++ (bs ++ rest')) := by show _ = _; rw [hv1.out, hrest]
      have hrr : r.length < gk := by rw [hids] at hg; simp at hg; omega
      have hrl2 : rest.length = 240 + rest'.length := by omega
      subst hrest
      obtain ⟨rl, hrl3, hrl4⟩ : ∃ rl, rl ≤ (bs ++ rest').length ∧ (bs ++ rest').length ≤ rl := ⟨_, Nat.le_refl _, Nat.le_refl _⟩
      clear hc1 hc2 hrl
      have HX := Lib.hid (read_some cur ⟨4, next, bs⟩ wr hpg hm)
      have hz := hb.size
      have hvl : v.length = done.length + (bs ++ rest').length := by rw [hv1.out, List.length_append]
      have hil : ids.length = d1.length + r1.length := by rw [hi1.out, List.length_append]
      have hr1p : 1 ≤ r1.length := by rw [hids]; simp
      have hidl : ids.length ≤ 2000 := hidsl
      have e1 : (v.length : Int) - (done.length : Int) = (rl : Int) := by omega
      have hBl : done.length ≤ 2000 := by omega
      have hd1 : d1.length ≤ 2000 := by omega
      have hdr : done.length + bs.length ≤ 2000 := by omega
      have e2 : min (rl : Int) 240 = 240 := by omega
      have e3 : (bs.length : Int) = 240 := by omega
      have hle : ¬ (rl : Int) ≤ 240 := by omega
      have hnx : (next == 0) = false := by simpa using hn0
      have HV := Lib.hid hv1
      have hvlB := Lib.hid hvl
      have hrlB := Lib.hid hrl2
      clear hrl2 hrl3 hrl4
      have hilB := Lib.hid hil
      clear hm hvl hil hids
      go_wp2_with (fail)
      go_must (refine HX.out.mono ?_)
      rintro e w1 ⟨rfl, hb1⟩
      have hs1 := hb1.size
      have hsw1 : w.heap.size ≤ w1.heap.size := by omega
      have hB1 := (hB.below hb1).alloc (.cells #[.int .i64 4, .int .i64 next, strV bs] 81)
      have own1 := (own_below hown hb1).alloc (.cells #[.int .i64 4, .int .i64 next, strV bs] 81)
      have bx1 : Blk (w1.alloc (.cells #[.int .i64 4, .int .i64 next, strV bs] 81)) w1.heap.size 81 #[.int .i64 4, .int .i64 next, strV bs] := Blk.new _ _ _
      have x0 : (w1.alloc (.cells #[.int .i64 4, .int .i64 next, strV bs] 81)).cell? ⟨w1.heap.size, 0, none⟩ = some (.int .i64 4) := bx1.cell 0
      have x1 : (w1.alloc (.cells #[.int .i64 4, .int .i64 next, strV bs] 81)).cell? ⟨w1.heap.size, 1, none⟩ = some (.int .i64 next) := bx1.cell 1
      have x2 : (w1.alloc (.cells #[.int .i64 4, .int .i64 next, strV bs] 81)).cell? ⟨w1.heap.size, 2, none⟩ = some (strV bs) := bx1.cell 2
      have hbW : Below w.heap.size w (w1.alloc (.cells #[.int .i64 4, .int .i64 next, strV bs] 81)) := (hb.trans (hb1.mono hz)).alloc (by omega) _
      go_wp2_with (fail)
      go_must (refine (bd_len hB1).mono ?_)
      rintro e w2 ⟨rfl, rfl⟩
      go_wp2_with (fail)
      go_must (refine (bw_string hB1 bs (by omega) (by simp; omega)).mono ?_)
      rintro e w3 ⟨rfl, ⟨F3, hB3⟩, K3⟩
      have own3 := own_keeps own1 K3 (own_not_bd hB1 own1)
      have hbb3 : w1.heap.size ≠ w.heap.size := by omega
      have bx3 := bx1.keeps K3 (hB1.not bx1 (by decide) hbb3)
      have x31 : w3.cell? ⟨w1.heap.size, 1, none⟩ = some (.int .i64 next) := bx3.cell 1
      have hbW3 : Below w.heap.size w w3 := hbW.trans (hB1.below_of K3 (by simp; omega))
      have hs3 := hbW3.size
      have hbx := bx3.lt
      go_wp2_with (at_builtin; go_must (refine wpList_append_own _ rfl _ _ 89 rfl w.heap.size 3 i0 _ 1 8 Tryz.underlying89 hi hz0 hz1 hz2 rfl (by decide) _ d1.length (intsV d1) rfl (own3.alloc _) ⟨w3.heap.size, 0, none⟩ 1 1 [.int .i64 cur] rfl rfl (row_newS _ _ _ _ rfl) (by simp [Value.oneCell']) (by unfold maxLen; omega) (by omega) (by simp; omega) ?_))
      intro v4 w4 own4 hg4 _
      have K4 : Keeps (fun k => _ = some k) w3 w4 := ((Keeps.refl (fun k => _ = some k) _).alloc _).grown hg4 (fun k hk _ => hk)
      have hB4 := hB3.keeps K4 (fun e => own_not_bd hB3 own3 _ e (.inl rfl)) (fun k hk e => own_not_bd hB3 own3 _ e (.inr hk.symm))
      have bx4 := bx3.keeps K4 (fun e => own_ne own3 bx3 (by decide) _ e rfl)
      have x41 : w4.cell? ⟨w1.heap.size, 1, none⟩ = some (.int .i64 next) := bx4.cell 1
      have hbW4 : Below w.heap.size w w4 := hbW3.trans (K4.below hs3 (fun i hi hk => by have := (own3.lt i hk).1; omega))
      have own4' : w4.ownsRow w.heap.size 3 1 v4 (d1 ++ [cur]).length (intsV (d1 ++ [cur])) := by rw [intsV_snoc, List.length_append]; exact own4
      have HO4 := Lib.hid own4'
      clear own4 own4'
      go_wp2_with (fail)
      go_roundg r.length
      case measure => omega
      case rel => exact ⟨done ++ bs, rest', d1 ++ [cur], r, next, F3, rfl, Nat.le_refl _, by show _ = _; rw [HV.out]; simp, HI2, HC2, hB4, HO4.out, hbW4⟩
end
end Go.Ev
