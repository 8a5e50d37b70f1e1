/-
  The end of a change: what falls away is dropped.
-/
import Derived.Test.YtgfmhppkmogdhaaGreatDoorMBGwWork
set_option linter.unusedVariables false
set_option linter.unusedSimpArgs false
set_option linter.unusedVariables false
set_option linter.unusedSimpArgs false
namespace Go.Ev
open Go.Proofs Go.RowKit

def dropAll (M : Store) (l : List Int) : Store := l.foldl (fun M i => updS M i none) M
theorem dropAll_snoc (M : Store) (l : List Int) (i : Int) : dropAll M (l ++ [i]) = updS (dropAll M l) i none := by simp [dropAll]
theorem dropAll_at (M : Store) : ∀ (l : List Int) (i : Int), dropAll M l i = if i ∈ l then none else M i := by
  intro l
  induction l generalizing M with
  | nil => intro i; rfl
  | cons a l ih =>
    intro i
    show dropAll (updS M a none) l i = _
    rw [ih, updS]
    by_cases h1 : i ∈ l
    · simp [h1]
    · by_cases h2 : i = a
      · simp [h1, h2]
      · simp [h1, h2]

def EndP (p : Nat) (c : Pc) (most : Nat) (M : Store) (cnt : Nat) (l : List Int) (w : World) (e : Ending) (w' : World) : Prop :=
  e = .returned (.int .i64 0) ∧ ∃ c', PgOk w' p c' most (dropAll M l) (cnt - l.length) ∧ PgK p c c' w w'

section
variable {p most cnt : Nat} {x : Wc} {M : Store} {made dropped : List Int} {w w' : World}

set_option maxHeartbeats 1000000 in
set_option maxRecDepth 100000 in
theorem end_ok (h : WkOk w p x most M cnt made dropped) (hn : dropped.Nodup) (hM : ∀ i ∈ dropped, (M i).isSome = true) (hl : dropped.length ≤ 100000) :
    Calls Tryz.prog 104 #[ptrV x.b, .int .i64 0] w (EndP p x.c most M cnt dropped w) := by
  obtain ⟨c, b, mv, dv⟩ := x
  have hdr := h.dr
  simp only at hdr
  obtain ⟨A, cc, rfl, _⟩ := Sl.of_own hdr
  clear hdr
  have g0 : w.cell? ⟨b, 0, none⟩ = some (ptrV p) := h.blk.cell 0
  have g2 : w.cell? ⟨b, 2, none⟩ = some (.slice A dropped.length cc) := h.blk.cell 2
  have HN := Lib.hid hn
  have HM := Lib.hid hM
  clear hn hM
  go_enter Tryz.func104, Tryz.ntmps104
  go_wp2_with (fail)
  go_loopg [20] dropped.length (fun gk s20 wr => ∃ (done rest : List Int) (c1 : Pc), s20 = .int .i64 done.length ∧ rest.length ≤ gk ∧ Hid (dropped = done ++ rest) ∧ WkOk wr p ⟨c1, b, mv, .slice A dropped.length cc⟩ most (dropAll M done) (cnt - done.length) made dropped ∧ Hid (PgK p c c1 w wr))
  case atStart => exact ⟨[], dropped, c, rfl, Nat.le_refl _, rfl, h, PgK.refl _ _ _⟩
  case round =>
    obtain ⟨done, rest, c1, rfl, hg, hD, hW, hK⟩ := hrel
    have hlen : dropped.length = done.length + rest.length := by rw [hD.out, List.length_append]
    cases rest with
    | nil =>
      have hdd : Hid (done = dropped) := by show _ = _; rw [hD.out, List.append_nil]
      have hln : done.length = dropped.length := by rw [hdd.out]
      have HW := Lib.hid hW.pg
      have hge : ¬ (done.length : Int) < (dropped.length : Int) := by omega
      clear hW hD hlen hg
      go_wp2_with (fail)
      go_ret
      refine ⟨rfl, c1, ?_, hK.out⟩
      have := HW.out
      rw [hdd.out] at this
      exact this
    | cons y r =>
      have hlt : (done.length : Int) < (dropped.length : Int) := by rw [hlen]; simp; omega
      have hlt2 : done.length < dropped.length := by omega
      have hge0 : (0 : Int) ≤ (done.length : Int) := by omega
      have g0r : wr.cell? ⟨b, 0, none⟩ = some (ptrV p) := hW.blk.cell 0
      obtain ⟨A', c', e0, _, _, hcl⟩ := Sl.of_own hW.dr
      cases e0
      obtain ⟨blk, off, rfl, hbl, hcell⟩ := hcl (by omega)
      have hyv : wr.cell? ⟨blk, off + done.length, none⟩ = some (.int .i64 y) := hcell done.length _ (by rw [hD.out]; simp [intsV])
      have hy : (dropAll M done y).isSome = true := by
        rw [dropAll_at, if_neg]
        · exact HM.out y (by rw [hD.out]; simp)
        · intro hm
          have := HN.out
          rw [hD.out, List.nodup_append] at this
          exact this.2.2 y hm y (List.mem_cons_self ..) rfl
      obtain ⟨pg, hpg⟩ := Option.isSome_iff_exists.1 hy
      have HDr := Lib.hid (drop_any y pg wr hW.pg hpg)
      have hD2 : Hid (dropped = (done ++ [y]) ++ r) := by show _ = _; rw [hD.out]; simp
      have hrg : r.length < gk := by simp at hg; omega
      have HW := Lib.hid hW
      clear hcl hcell hpg hy hD hlen hW
      go_wp2_with (fail)
      go_must (refine HDr.out.mono ?_)
      rintro e w1 ⟨rfl, c2, hp2, hK2⟩
      have HW2 := Lib.hid (HW.out.pager hp2 hK2)
      have HK2 := Lib.hid (hK.out.trans hK2)
      clear hp2 hK2
      go_wp2_with (fail)
      go_roundg r.length
      case measure => omega
      case rel => exact ⟨done ++ [y], r, c2, by simp, Nat.le_refl _, hD2, by have := HW2.out; rw [dropAll_snoc, List.length_append]; rwa [Nat.sub_sub] at this, HK2⟩
end
end Go.Ev
