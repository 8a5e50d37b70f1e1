/-
  Buckets.
-/
import Derived.Test.YtoemhefcmibjpaaGreatDoorMGwTreeG
set_option linter.unusedVariables false
set_option linter.unusedSimpArgs false
set_option linter.unusedVariables false
set_option linter.unusedSimpArgs false
namespace Go.Ev
open Go.Proofs Go.RowKit
section
variable {p most cnt : Nat} {c : Pc} {M : Store}
def DropTP (p : Nat) (c : Pc) (most : Nat) (M : Store) (cnt : Nat) (ids : List Int) (w : World) (e : Ending) (w' : World) : Prop :=
 e = .returned (.int .i64 0) ∧ ∃ c' M', PgOk w' p c' most M' (cnt - ids.length) ∧ (∀ i, M' i = if i ∈ ids then none else M i) ∧ PgK p c c' w w'
set_option maxHeartbeats 2000000 in
set_option maxRecDepth 100000 in
theorem dropTree_ok (root : Int) (ps : List Pair) (ids : List Int) (n : Nat) (w : World) (h : PgOk w p c most M cnt) (hT : TreeH M root ps ids n) (hn : n ≤ 20000) (hl : ids.length ≤ 90000) (hps : ps.length ≤ 90000) :
  Calls Tryz.prog 22 #[ptrV p, .int .i64 root] w (DropTP p c most M cnt ids w) := by
 have HP := Lib.hid (pagesG_ok root ps ids n w h hT hn hl hps)
 obtain ⟨L, hL⟩ : ∃ L, sortZs ids = L := ⟨_, rfl⟩
 have hperm : L.Perm ids := by rw [← hL]; exact sortZs_perm ids
 have HPerm := Lib.hid hperm
 have HN : Hid L.Nodup := hperm.nodup_iff.2 hT.once
 have HM : Hid (∀ i ∈ L, (M i).isSome = true) := fun i hi => by
  have := hT.there i (hperm.mem_iff.1 hi)
  cases hq : M i with
  | none => exact absurd hq this
  | some y => rfl
 have hLl : ids.length = L.length := hperm.length_eq.symm
 have HH := Lib.hid h
 rw [hL, hLl] at HP
 have HLl := Lib.hid hLl
 clear h hT hL hperm
 go_enter Tryz.func22, Tryz.ntmps22
 go_wp2_with (fail)
 go_must (refine HP.out.mono ?_)
 rintro e w1 ⟨A, cc, rfl, hrow, hb1⟩
 have HRow := Lib.hid hrow
 have HB1 := Lib.hid hb1
 have HK0 : Hid (PgK p c c w w1) := ⟨Keeps.of_below hb1, fun _ e => .inl e, rfl, rfl, rfl⟩
 have HP1 := Lib.hid (HH.out.below hb1)
 have HNo : Hid (∀ k, (Value.slice A L.length cc).ownBlock = some k → ¬ c.S p k) := fun k hk e => by
  have := (hrow.lt k hk).1
  have := HH.out.lt k e
  omega
 clear hrow hb1
 go_wp2_with (fail)
 go_loopg [17] L.length (fun gk s17 wr => ∃ (done rest : List Int) (c1 : Pc), s17 = .int .i64 (done.length : Int) ∧ rest.length ≤ gk ∧ Hid (L = done ++ rest) ∧ Hid (PgOk wr p c1 most (dropAll M done) (cnt - done.length)) ∧ Hid (PgK p c c1 w wr) ∧ Hid (wr.ownsRow w.heap.size 3 1 (.slice A L.length cc) L.length (intsV L)) ∧ Hid (∀ k, (Value.slice A L.length cc).ownBlock = some k → ¬ c1.S p k))
 case atStart => exact ⟨[], L, c, rfl, Nat.le_refl _, rfl, HP1.out, HK0.out, HRow.out, HNo.out⟩
 case round =>
  clear HRow HB1 HK0 HP1 HNo
  obtain ⟨done, rest, c1, rfl, hg, hD, hW, hK, hrow, hno⟩ := hrel
  have hlen : L.length = done.length + rest.length := by rw [hD.out, List.length_append]
  cases rest with
  | nil =>
   have hdd : Hid (done = L) := by show _ = _; rw [hD.out, List.append_nil]
   have hln : done.length = L.length := by rw [hdd.out]
   have hge : ¬ (done.length : Int) < (L.length : Int) := by omega
   clear hD hlen hg
   go_wp2_with (fail)
   go_ret
   refine ⟨rfl, c1, dropAll M L, ?_, fun i => ?_, hK.out⟩
   ·have := hW.out
    rw [hdd.out] at this
    rw [HLl.out]
    exact this
   ·rw [dropAll_at]
    by_cases hi : i ∈ ids
    ·rw [if_pos hi, if_pos (HPerm.out.mem_iff.2 hi)]
    ·rw [if_neg hi, if_neg fun e => hi (HPerm.out.mem_iff.1 e)]
  | cons y r =>
   have hlt : (done.length : Int) < (L.length : Int) := by rw [hlen]; simp; omega
   have hlt2 : done.length < L.length := by omega
   have hge0 : (0 : Int) ≤ (done.length : Int) := by omega
   obtain ⟨A', c', e0, _, _, hcl⟩ := Sl.of_own hrow.out
   cases e0
   obtain ⟨blk, off, rfl, hbl, hcell⟩ := hcl (by omega)
   have hyv : wr.cell? ⟨blk, off + done.length, none⟩ = some (.int .i64 y) := hcell done.length _ (by rw [hD.out]; simp [intsV])
   have hy : (dropAll M done y).isSome = true := by
    rw [dropAll_at, if_neg]
    ·exact HM.out y (by rw [hD.out]; simp)
    ·intro hm
     have := HN.out
     rw [hD.out, List.nodup_append] at this
     exact this.2.2 y hm y (List.mem_cons_self ..) rfl
   obtain ⟨pg, hpg⟩ := Option.isSome_iff_exists.1 hy
   have HDr := Lib.hid (drop_any y pg wr hW.out hpg)
   have hD2 : Hid (L = (done ++ [y]) ++ r) := by show _ = _; rw [hD.out]; simp
   have hrg : r.length < gk := by simp at hg; omega
   have hwd : IntKind.i64.wrap ((done.length : Int) + 1) = (done.length : Int) + 1 := IntWalk.i64_in _ (by omega)
   clear hcl hcell hpg hy hlen
   go_wp2_with (fail)
   go_must (refine HDr.out.mono ?_)
   rintro e w2 ⟨rfl, c2, hp2, hK2⟩
   have HW2 : Hid (PgOk w2 p c2 most (dropAll M (done ++ [y])) (cnt - (done ++ [y]).length)) := by
    show PgOk _ _ _ _ _ _
    rw [dropAll_snoc, List.length_append, ← Nat.sub_sub]
    exact hp2
   have HK2 := Lib.hid (hK.out.trans hK2)
   have HR2 := Lib.hid (own_keeps hrow.out hK2.keeps hno.out)
   have HN2 : Hid (∀ k, (Value.slice (some ⟨blk, off, none⟩) L.length cc).ownBlock = some k → ¬ c2.S p k) := fun k hk e => by
    rcases hK2.sub k e with e | e
    ·exact hno.out k hk e
    ·have := (hrow.out.lt k hk).2
     omega
   clear hp2 hK2
   go_wp2_with (fail)
   go_roundg r.length
   case measure => omega
   case rel => exact ⟨done ++ [y], r, c2, by simp, Nat.le_refl _, hD2, HW2.out, HK2.out, HR2.out, HN2.out⟩
end
end Go.Ev
