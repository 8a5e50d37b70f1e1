/-
  Law 11's step: a pager and its tree, changed step by step.
-/
import Derived.Test.YtijlmjfemedjdaaGreatDoorMGGwTreeG
import Derived.Test.YtijlmjfemedjdaaGreatDoorMGGwRefPut
import Derived.Test.YtijlmjfemedjdaaGreatDoorMGGwLayK
set_option linter.unusedVariables false
set_option linter.unusedSimpArgs false
set_option linter.unusedVariables false
set_option linter.unusedSimpArgs false
namespace Go.Ev
open Go.Proofs Go.RowKit

/-- A pager of a first transaction that has just a tree's pages; all its blocks are younger than a place. -/
structure Gh (B p : Nat) (root : Int) (ps : List Pair) (n : Nat) (W : World) : Prop where
 ex : ∃ c M ids, PgOk W p c 3000 M ids.length ∧ TreeH M root ps ids n ∧ ∀ k, c.S p k → B ≤ k
 size : B ≤ W.heap.size

section
variable {B p n : Nat} {root : Int} {ps : List Pair} {W W' : World}

theorem Gh.below (h : Gh B p root ps n W) (hb : Below W.heap.size W W') : Gh B p root ps n W' := by
 obtain ⟨c, M, ids, h1, h2, h3⟩ := h.ex
 exact ⟨⟨c, M, ids, h1.below hb, h2, h3⟩, Nat.le_trans h.size hb.size⟩

theorem gh_new {c : Pc} {B : Nat} (h : PgOk W p c 3000 (updS (fun _ => none) root (some ⟨2, 0, []⟩)) 1) (hS : ∀ k, c.S p k → B ≤ k) (hB : B ≤ W.heap.size) : Gh B p root [] 0 W :=
 ⟨⟨c, _, [root], h, TreeH.new (by simp [updS]), hS⟩, hB⟩

/-- Behind a change. -/
theorem PutGP.gh {c : Pc} {M : Store} {ids : List Int} {ps' : List Pair} {n' : Nat} {e : Ending} (h : PutGP p c 3000 M ids.length ids ps' n' W e W') (hS : ∀ k, c.S p k → B ≤ k) (hB : B ≤ W.heap.size) :
  ∃ r, e = .returned (.tuple #[.int .i64 r, .int .i64 0]) ∧ Gh B p r ps' n' W' ∧ Below B W W' := by
 obtain ⟨r, M', c', cnt', ids', rfl, h1, h2, h3, h4, h5, hK⟩ := h
 obtain rfl : cnt' = ids'.length := by omega
 exact ⟨r, rfl, ⟨⟨c', M', ids', h2, h1, fun k hk => (hK.sub k hk).elim (hS k) fun e => Nat.le_trans hB e⟩, Nat.le_trans hB hK.keeps.size⟩, hK.keeps.below hB fun i hi e => by have := hS i e; omega⟩

theorem Gh.put (h : Gh B p root ps n W) (key v : Bytes) (hg : goodKV key v = true) (hn : n ≤ 250) (hl : ps.length ≤ 250) (hv : sumV ps ≤ 60000) :
  Calls Tryz.prog 16 #[ptrV p, .int .i64 root, strV key, strV v] W fun e W' => ∃ r, e = .returned (.tuple #[.int .i64 r, .int .i64 0]) ∧ Gh B p r (insP key v ps) (n + 1) W' ∧ Below B W W' := by
 obtain ⟨c, M, ids, h1, h2, h3⟩ := h.ex
 obtain ⟨g1, g2, g3⟩ := goodKV_of hg
 have hpg := h2.pages hn hv hl
 exact (treePutG_ok root key v ps ids n h1 h2 g1 g2 g3 (by omega) (by omega) (.inl (by omega))).mono fun e w' hp => hp.gh h3 h.size

theorem Gh.del (h : Gh B p root ps n W) (key : Bytes) (g1 : 1 ≤ key.length) (g2 : key.length ≤ 40) (hin : (getP key ps).isSome = true) (hn : n ≤ 250) (hl : ps.length ≤ 250) (hv : sumV ps ≤ 60000) :
  Calls Tryz.prog 19 #[ptrV p, .int .i64 root, strV key] W fun e W' => ∃ r, e = .returned (.tuple #[.int .i64 r, .int .i64 0]) ∧ Gh B p r (delP key ps) n W' ∧ Below B W W' := by
 obtain ⟨c, M, ids, h1, h2, h3⟩ := h.ex
 have hpg := h2.pages hn hv hl
 exact (treeDelG_ok root key ps ids n h1 h2 g1 g2 hin (by omega) (by omega) (.inl (by omega))).mono fun e w' hp => hp.gh h3 h.size

theorem Gh.del_none (h : Gh B p root ps n W) (key : Bytes) (g1 : 1 ≤ key.length) (g2 : key.length ≤ 40) (hno : (getP key ps).isSome = false) (hn : n ≤ 250) :
  Calls Tryz.prog 19 #[ptrV p, .int .i64 root, strV key] W fun e W' => e = .returned (.tuple #[.int .i64 0, .int .i64 7]) ∧ Below W.heap.size W W' := by
 obtain ⟨c, M, ids, h1, h2, h3⟩ := h.ex
 exact treeDelG_none root key ps ids n h1 h2 g1 g2 hno (by omega)

def StepP (B p : Nat) (ps : List Pair) (n : Nat) (v : Bytes) (W : World) (e : Ending) (W' : World) : Prop :=
 ∃ r ps' n', e = .returned (.int .i64 r) ∧ Gh B p r ps' n' W' ∧ n' ≤ n + 1 ∧ ps'.length ≤ ps.length + 1 ∧ sumV ps' ≤ sumV ps + v.length ∧ Below B W W'

theorem delP_len (k : Bytes) : ∀ l : List Pair, (delP k l).length ≤ l.length
 | [] => Nat.le_refl _
 | q :: l => by
  have := delP_len k l
  simp only [delP]
  split
  ·simp
  ·simp; omega

set_option maxHeartbeats 4000000 in
set_option maxRecDepth 100000 in
theorem step_any (kind : Int) (key v : Bytes) (h : Gh B p root ps n W) (hn : n + 1 ≤ 250) (hl : ps.length ≤ 250) (hv : sumV ps ≤ 60000) (hkm : key.length ≤ maxLen) (hvm : v.length ≤ maxLen) :
  Calls Tryz.prog 11 #[ptrV p, .int .i64 root, .agg #[.int .i64 kind, strV key, strV v]] W (StepP B p ps n v W) := by
 unfold maxLen at hkm hvm
 obtain ⟨W1, hW1⟩ : ∃ W1, W.alloc (.cells #[.int .i64 kind, strV key, strV v] 32) = W1 := ⟨_, rfl⟩
 have hb1 : Below W.heap.size W W1 := by rw [← hW1]; exact (Below.refl _ _).alloc (Nat.le_refl _) _
 have hbk : Blk W1 W.heap.size 32 #[.int .i64 kind, strV key, strV v] := by rw [← hW1]; exact Blk.new _ _ _
 have x0 : W1.cell? ⟨W.heap.size, 0, none⟩ = some (.int .i64 kind) := hbk.cell 0
 have x1 : W1.cell? ⟨W.heap.size, 1, none⟩ = some (strV key) := hbk.cell 1
 have x2 : W1.cell? ⟨W.heap.size, 2, none⟩ = some (strV v) := hbk.cell 2
 have hstay : ∀ W2, Below W1.heap.size W1 W2 → StepP B p ps n v W (.returned (.int .i64 root)) W2 := fun W2 hb => by
  have hb2 := hb1.trans (hb.mono hb1.size)
  exact ⟨root, ps, n, rfl, h.below hb2, by omega, by omega, by omega, hb2.mono h.size⟩
 have h1 := h.below hb1
 have HStay := Lib.hid hstay
 have HB1 := Lib.hid hb1
 have HW1 := Lib.hid hW1
 by_cases hk1 : kind = 1
 ·subst hk1
  cases hgd : goodKV key v with
  | true =>
   have HP := Lib.hid (h1.put key v hgd (by omega) hl hv)
   have HI := Lib.hid (insP_len (k := key) (v := v) ps)
   have HV := Lib.hid (sumV_ins key v ps)
   have hsz := h.size
   clear h h1 hbk hb1 hstay hW1 hgd
   go_enter Tryz.func11, Tryz.ntmps11
   go_wp2_with (fail)
   rw [HW1.out]
   go_must (refine HP.out.mono ?_)
   rintro e W2 ⟨r, rfl, hG, hb⟩
   have HE : Hid (StepP B p ps n v W (.returned (.int .i64 r)) W2) := ⟨r, _, n + 1, rfl, hG, Nat.le_refl _, HI.out.1, HV.out, (HB1.out.mono hsz).trans hb⟩
   clear hG hb
   go_wp2_with (fail)
   go_ret
   exact HE.out
  | false =>
   have HP := Lib.hid (fun W2 => treePut_bad p root key v W2 hkm hvm (goodKV_not hgd))
   clear h h1 hbk hb1 hstay hW1 hgd
   go_enter Tryz.func11, Tryz.ntmps11
   go_wp2_with (fail)
   go_must (refine (HP.out _).mono ?_)
   rintro e W2 ⟨rfl, rfl⟩
   rw [HW1.out]
   go_wp2_with (fail)
   go_ret
   exact HStay.out _ (Below.refl _ _)
 ·have hk1' : (kind == 1) = false := by simpa using hk1
  by_cases hk2 : kind = 2
  ·subst hk2
   by_cases hgk : 1 ≤ key.length ∧ key.length ≤ 40
   ·cases hin : (getP key ps).isSome with
    | true =>
     have HP := Lib.hid (h1.del key hgk.1 hgk.2 hin (by omega) hl hv)
     have HI := Lib.hid (delP_len key ps)
     have HV := Lib.hid (sumV_del key ps)
     have hsz := h.size
     clear h h1 hbk hb1 hstay hW1 hin
     go_enter Tryz.func11, Tryz.ntmps11
     go_wp2_with (fail)
     rw [HW1.out]
     go_must (refine HP.out.mono ?_)
     rintro e W2 ⟨r, rfl, hG, hb⟩
     have HE : Hid (StepP B p ps n v W (.returned (.int .i64 r)) W2) := ⟨r, _, n, rfl, hG, by omega, by have := HI.out; omega, by have := HV.out; omega, (HB1.out.mono hsz).trans hb⟩
     clear hG hb
     go_wp2_with (fail)
     go_ret
     exact HE.out
    | false =>
     have HP := Lib.hid (h1.del_none key hgk.1 hgk.2 hin (by omega))
     clear h h1 hbk hb1 hstay hW1 hin
     go_enter Tryz.func11, Tryz.ntmps11
     go_wp2_with (fail)
     rw [HW1.out]
     go_must (refine HP.out.mono ?_)
     rintro e W2 ⟨rfl, hb⟩
     have HE := Lib.hid (HStay.out W2 hb)
     clear hb
     go_wp2_with (fail)
     go_ret
     exact HE.out
   ·have HP := Lib.hid (fun W2 => treeDel_bad p root key W2 hkm hgk)
    clear h h1 hbk hb1 hstay hW1 hgk
    go_enter Tryz.func11, Tryz.ntmps11
    go_wp2_with (fail)
    go_must (refine (HP.out _).mono ?_)
    rintro e W2 ⟨rfl, rfl⟩
    rw [HW1.out]
    go_wp2_with (fail)
    go_ret
    exact HStay.out _ (Below.refl _ _)
  ·have hk2' : (kind == 2) = false := by simpa using hk2
   clear h h1 hbk hb1 hstay hk1 hk2
   go_enter Tryz.func11, Tryz.ntmps11
   go_wp2_with (fail)
   go_ret
   exact HStay.out _ (Below.refl _ _)
end
end Go.Ev
