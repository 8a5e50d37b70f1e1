/-
  A chain's pages, and its value; a value cut into pieces.
-/
import Derived.Test.YtgfmhppkmogdhaaGreatDoorMBGwWalk
set_option linter.unusedVariables false
set_option linter.unusedSimpArgs false
set_option linter.unusedVariables false
set_option linter.unusedSimpArgs false
namespace Go.Ev
open Go.Proofs Go.RowKit

section
variable {p : Nat} {c : Pc} {most cnt : Nat} {M : Store}

theorem overPages_ok (id : Int) (v : Bytes) (ids : List Int) (w : World) (h : PgOk w p c most M cnt) (hc : ChainAt M id v ids) (hv : v.length ≤ 2000) (hidsl : ids.length ≤ 2000) :
    Calls Tryz.prog 155 #[ptrV p, .int .i64 id, .int .i64 v.length] w fun e w' => ∃ r, e = .returned (.tuple #[r, .int .i64 0]) ∧ w'.ownsRow w.heap.size 3 1 r ids.length (intsV ids) ∧ Below w.heap.size w w' := by
  have hW := Lib.hid (walk_ok id v ids w h hc hv hidsl)
  clear h hc
  go_enter Tryz.func155, Tryz.ntmps155
  go_wp2_with (fail)
  go_must (refine hW.out.mono ?_)
  rintro e w1 ⟨r, rfl, hown, hb⟩
  go_wp2_with (fail)
  go_ret2
  exact ⟨r, rfl, hown, hb⟩

theorem overGet_ok (id : Int) (v : Bytes) (ids : List Int) (w : World) (h : PgOk w p c most M cnt) (hc : ChainAt M id v ids) (hv : v.length ≤ 2000) (hidsl : ids.length ≤ 2000) :
    Calls Tryz.prog 132 #[ptrV p, .int .i64 id, .int .i64 v.length] w fun e w' => e = .returned (.tuple #[strV v, .int .i64 0]) ∧ Below w.heap.size w w' := by
  have hW := Lib.hid (walk_ok id v ids w h hc hv hidsl)
  clear h hc
  go_enter Tryz.func132, Tryz.ntmps132
  go_wp2_with (fail)
  go_must (refine hW.out.mono ?_)
  rintro e w1 ⟨r, rfl, hown, hb⟩
  go_wp2_with (fail)
  go_ret2
  exact ⟨rfl, hb⟩
end

theorem extract_take (b : Bytes) (k : Nat) : (ByteArray.mk b.toArray).extract 0 k = ⟨(b.take k).toArray⟩ := by
  rw [ByteArray.extract_mk, List.drop_zero, Nat.sub_zero]

/-- The pieces of a value. -/
def cutB (v : Bytes) : List Bytes := if h : 240 < v.length then v.take 240 :: cutB (v.drop 240) else if v = [] then [] else [v]
termination_by v.length
decreasing_by rw [List.length_drop]; omega

def strsV (l : List Bytes) : List Value := l.map strV
theorem strsV_snoc (l : List Bytes) (x : Bytes) : strsV (l ++ [x]) = strsV l ++ [strV x] := by simp [strsV]

def CutP (v : Bytes) (w : World) (e : Ending) (w' : World) : Prop := ∃ r, e = .returned r ∧ w'.ownsRow w.heap.size 9 1 r (cutB v).length (strsV (cutB v)) ∧ Below w.heap.size w w'

set_option maxHeartbeats 1000000 in
set_option maxRecDepth 100000 in
theorem cut_any (v : Bytes) (w : World) (hv : v.length ≤ 100000) :
    Calls Tryz.prog 202 #[strV v] w (CutP v w) := by
  obtain ⟨i0, hi, hz0, hz1, hz2⟩ := info_parts infoStr
  go_enter Tryz.func202, Tryz.ntmps202
  go_wp2
  go_loopg [0, 3] v.length (fun gk s0 s3 wr => ∃ (done : List Bytes) (rest : Bytes), s0 = strV rest ∧ rest.length ≤ gk ∧ rest.length + done.length ≤ v.length ∧ Hid (cutB v = done ++ cutB rest) ∧ wr.ownsRow w.heap.size 9 1 s3 done.length (strsV done) ∧ Below w.heap.size w wr)
  case atStart => exact ⟨[], v, rfl, Nat.le_refl _, by simp, rfl, World.ownsRow_nil _ _ _ _, Below.refl _ _⟩
  case round =>
    obtain ⟨done, rest, rfl, hg, hsum, hcut, hown, hb⟩ := hrel
    have hz := hb.size
    by_cases hlt : 240 < rest.length
    · have hlt' : (240 : Int) < (rest.length : Int) := by omega
      have hle : (240 : Int) ≤ (rest.length : Int) := by omega
      have hc2 : Hid (cutB v = (done ++ [rest.take 240]) ++ cutB (rest.drop 240)) := by
        show _ = _
        rw [hcut.out, cutB, dif_pos hlt]
        simp
      have hx1 := extract_take rest 240
      have hx2 := extract_drop rest 240
      have hm1 : done.length + 1 ≤ maxLen := by unfold maxLen; omega
      go_wp2_with (at_builtin; go_must (refine wpList_append_own _ rfl _ _ 195 rfl w.heap.size 9 i0 _ 1 16 Tryz.underlying195 hi hz0 hz1 hz2 rfl (by decide) _ done.length (strsV done) rfl (hown.alloc _) ⟨wr.heap.size, 0, none⟩ 1 1 [strV (rest.take 240)] rfl rfl (row_newS _ _ _ _ rfl) (by simp [Value.oneCell', strV]) hm1 (by omega) (by simp; omega) ?_))
      intro v4 w4 own4 hg4 _
      have hbW : Below w.heap.size w w4 := (hb.alloc hz _).grown hg4 (by simp; omega) (fun k hk => (hown.lt k hk).1)
      have HO : Hid (w4.ownsRow w.heap.size 9 1 v4 (done ++ [rest.take 240]).length (strsV (done ++ [rest.take 240]))) := by
        show World.ownsRow _ _ _ _ _ _ _
        rw [strsV_snoc, List.length_append]
        exact own4
      clear own4 hg4
      go_wp2_with (fail)
      go_roundg (rest.length - 240)
      case measure => omega
      case rel => exact ⟨done ++ [rest.take 240], rest.drop 240, rfl, by rw [List.length_drop]; omega, by rw [List.length_drop, List.length_append, List.length_singleton]; omega, hc2, HO.out, hbW⟩
    · have hlt' : ¬ (240 : Int) < (rest.length : Int) := by omega
      by_cases he : rest = []
      · subst he
        have hc2 : Hid (cutB v = done) := by show _ = _; rw [hcut.out, cutB]; simp
        clear hcut
        go_wp2
        go_ret
        exact ⟨_, rfl, by rw [hc2.out]; exact hown, hb⟩
      · have hc2 : Hid (cutB v = done ++ [rest]) := by show _ = _; rw [hcut.out, cutB, dif_neg hlt, if_neg he]
        have he1 : (!rest.isEmpty) = true := by simp [he]
        have he2 : rest.isEmpty = false := by simp [he]
        have hpl : 1 ≤ rest.length := by
          cases rest with
          | nil => exact absurd rfl he
          | cons _ _ => simp
        have hm1 : done.length + 1 ≤ maxLen := by unfold maxLen; omega
        clear hcut he
        go_wp2_with (at_builtin; go_must (refine wpList_append_own _ rfl _ _ 195 rfl w.heap.size 9 i0 _ 1 16 Tryz.underlying195 hi hz0 hz1 hz2 rfl (by decide) _ done.length (strsV done) rfl (hown.alloc _) ⟨wr.heap.size, 0, none⟩ 1 1 [strV rest] rfl rfl (row_newS _ _ _ _ rfl) (by simp [Value.oneCell', strV]) hm1 (by omega) (by simp; omega) ?_))
        intro v4 w4 own4 hg4 _
        have hbW : Below w.heap.size w w4 := (hb.alloc hz _).grown hg4 (by simp; omega) (fun k hk => (hown.lt k hk).1)
        have HO : Hid (w4.ownsRow w.heap.size 9 1 v4 (done ++ [rest]).length (strsV (done ++ [rest]))) := by
          show World.ownsRow _ _ _ _ _ _ _
          rw [strsV_snoc, List.length_append]
          exact own4
        clear own4 hg4
        go_wp2_with (fail)
        go_ret
        exact ⟨_, rfl, by rw [hc2.out]; exact HO.out, hbW⟩
end Go.Ev
