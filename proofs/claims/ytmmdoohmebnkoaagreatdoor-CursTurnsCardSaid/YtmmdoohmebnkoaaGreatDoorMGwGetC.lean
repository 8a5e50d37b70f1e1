/-
  Children are read from a branch's bytes, whatever they are.
-/
import Derived.Test.YtmmdoohmebnkoaaGreatDoorMGwBranch3
import Derived.Test.YtmmdoohmebnkoaaGreatDoorMGvGetC
set_option linter.unusedVariables false
set_option linter.unusedSimpArgs false
namespace Go.Ev
open Go.Proofs Go.RowKit

/-- What stands at the head of a round. -/
def GetCRel (b : Bytes) (w : World) (r : Nat) (g : Nat) (v : Value) (wr : World) : Prop := ∃ (R : Rd) (acc : List Child),
  Rd.children ⟨b, 0⟩ = (acc ++ R.children.1, R.children.2) ∧ RdAt wr r R ∧ wr.ownsRow w.heap.size 98 2 v acc.length (childrenCs acc) ∧ Below w.heap.size w wr ∧
  (if R.e = 0 then R.b.length + 1 else 0) ≤ g ∧ (∀ x ∈ acc, x.short) ∧ acc.length + (if R.e = 0 then R.b.length + 1 else 0) ≤ b.length + 1

def GetCPost (b : Bytes) (w : World) (e : Ending) (w' : World) : Prop := ∃ v, e = .returned (.tuple #[v, .int .i64 (getC b).2]) ∧ w'.ownsRow w.heap.size 98 2 v (getC b).1.length (childrenCs (getC b).1) ∧ Below w.heap.size w w'

theorem childrenOk_short {l : List Child} (h : ∀ x ∈ l, x.short) (hl : l.length ≤ 400) : ChildrenOk l := by
  have := layC_short h
  exact ⟨fun x hx => by have := (h x hx).1; omega, fun x hx => (h x hx).2, by omega, by omega⟩

theorem getCRel_step {b : Bytes} {w : World} {r : Nat} {R R3 : Rd} {acc : List Child} {x : Child} {v : Value} {w7 : World}
    (hI : Rd.children ⟨b, 0⟩ = (acc ++ R.children.1, R.children.2)) (hS : R.children = (R.child.1 :: R.child.2.children.1, R.child.2.children.2)) (hx : R.child = (x, R3))
    (hsh : ∀ y ∈ acc, y.short) (hs : R.child.1.short) (hle : R.child.2.b.length ≤ R.b.length) (hst : R.child.2.e = 0 → R.child.2.b.length < R.b.length)
    (hlen : acc.length + (R.b.length + 1) ≤ b.length + 1) (hR : RdAt w7 r R3)
    (hown : w7.ownsRow w.heap.size 98 2 v (acc ++ [x]).length (childrenCs (acc ++ [x]))) (hbw : Below w.heap.size w w7) :
    (if R3.e = 0 then R3.b.length + 1 else 0) < R.b.length + 1 ∧ GetCRel b w r (if R3.e = 0 then R3.b.length + 1 else 0) v w7 := by
  rw [hx] at hS hs hle hst
  dsimp only at hS hs hle hst
  have hlt : (if R3.e = 0 then R3.b.length + 1 else 0) < R.b.length + 1 := by
    split
    · have := hst (by assumption); omega
    · omega
  refine ⟨hlt, R3, acc ++ [x], ?_, hR, hown, hbw, Nat.le_refl _, ?_, ?_⟩
  · rw [hI, hS]; simp
  · intro y hy
    rcases List.mem_append.1 hy with h | h
    · exact hsh y h
    · rw [List.mem_singleton.1 h]; exact hs
  · rw [List.length_append, List.length_singleton]; omega

set_option maxHeartbeats 2000000 in
set_option maxRecDepth 100000 in
theorem getC_any (b : Bytes) (w : World) (hb : b.length ≤ 300) :
    Calls Tryz.prog 111 #[.string ⟨b.toArray⟩] w (GetCPost b w) := by
  obtain ⟨i0, hi, hz0, hz1, hz2⟩ := info_parts (show (Tryz.prog.info? 98).map (fun i => (i.zero, i.size, i.bytes)) = some (some (.agg #[.string ⟨#[]⟩, .int .i64 0]), 2, 24) by kernel_rfl)
  go_enter Tryz.func111, Tryz.ntmps111
  go_wp2_with (go_at_call 146; go_must (refine (newReader_any b _ (by omega)).mono ?_); rintro e w1 ⟨r, rfl, hr, hrw, hb1⟩)
  go_loopg [4] (b.length + 1) (fun g v wr => GetCRel b w r g v wr)
  case atStart => exact ⟨⟨b, 0⟩, [], rfl, hr, World.ownsRow_nil _ _ _ _, hb1, by simp, by simp, by simp⟩
  case round =>
    obtain ⟨R, acc, hI, hR, hown, hbw, hg, hsh, hlen⟩ := hrel
    have HI := Lib.hid hI
    clear hI
    by_cases hc : R.e = 0 ∧ R.b ≠ []
    · have hE1 : (R.end != 0) = true := by simp [Rd.end, hc.1, hc.2]
      have hE2 : (R.e == 0) = true := by simp [hc.1]
      have HS := Lib.hid (Rd.children_step hc)
      have hsz : R.b.length + 1 ≤ gk ∧ acc.length + (R.b.length + 1) ≤ b.length + 1 := by rw [if_pos hc.1] at hg hlen; exact ⟨hg, hlen⟩
      have hshort := Rd.child_ok R
      have hle := Lib.hid (Rd.child_le R)
      have hst := Lib.hid (@Rd.child_short R)
      have hun : Hid (R.child = ({ key := (R.text 40).1, page := (R.text 40).2.var.1 }, (R.text 40).2.var.2)) := by
        show _ = _
        unfold Rd.child
        rfl
      clear hc hg hlen
      have hT := fun W h => text_any r R 40 W h
      generalize R.text 40 = q1 at hun hT
      obtain ⟨key, R1⟩ := q1
      dsimp only at hun hT
      have hV1 := fun W h => var_any r R1 W h
      generalize R1.var = q3 at hun hV1
      obtain ⟨pg, R3⟩ := q3
      dsimp only at hun hV1
      have HT := Lib.hid hT
      have HV1 := Lib.hid hV1
      clear hT hV1
      have hx := hun
      clear hun
      go_wp2_with (first
        | (go_at_call 147; go_must (refine (end_any _ _ _ hR).mono ?_); rintro e w2 ⟨rfl, rfl⟩)
        | (go_at_call 148; go_must (refine (err_any _ _ _ hR).mono ?_); rintro e w2 ⟨rfl, rfl⟩))
      go_must (refine (HT.out _ hR).mono ?_)
      rintro e w3 ⟨rfl, hR1, K3⟩
      have hown3 := own_keeps hown K3 (own_ne hown hR.1 (by decide))
      have hbw3 : Below w.heap.size w w3 := hbw.trans (K3.below hbw.size (fun i hi h => by omega))
      go_wp2_with (fail)
      go_must (refine (HV1.out _ hR1).mono ?_)
      rintro e w4 ⟨rfl, hR3, K4⟩
      have hown4 := own_keeps hown3 K4 (own_ne hown3 hR1.1 (by decide))
      have hbw4 : Below w.heap.size w w4 := hbw3.trans (K4.below hbw3.size (fun i hi h => by omega))
      have hl4 := hbw4.size
      go_wp2_with (at_builtin; go_must (refine wpList_append_own _ rfl _ _ 57 rfl w.heap.size 98 i0 _ 2 24 Tryz.underlying57 hi hz0 hz1 hz2 rfl (by decide) _ _ _ rfl (hown4.alloc _) ⟨w4.heap.size, 0, none⟩ 1 1 (childCs { key := key, page := pg }) rfl rfl ?c1 ?c2 ?c3 ?c4 ?c5 ?_))
      case c1 => exact row_newI _ (childCs { key := key, page := pg }) _ _ rfl
      case c2 => simp [childCs, Value.oneCell', strV]
      case c3 => unfold maxLen; omega
      case c4 => omega
      case c5 => simp; omega
      intro v' w7 hown7 hgrow _
      have hown7' : w7.ownsRow w.heap.size 98 2 v' (acc ++ [({ key := key, page := pg } : Child)]).length (childrenCs (acc ++ [{ key := key, page := pg }])) := by
        rw [childrenCs_snoc, List.length_append]
        exact hown7
      have K7 : Keeps (fun k => _ = some k) _ w7 := (Keeps.refl (fun k => _ = some k) _).grown hgrow (fun k hk _ => hk)
      have hR7 : RdAt w7 r R3 := ⟨(hR3.1.alloc _).keeps K7 (fun hk => own_ne hown4 hR3.1 (by decide) r hk rfl), hR3.2⟩
      have hbw7 : Below w.heap.size w w7 := (hbw4.alloc hbw4.size _).trans (K7.below (by simp; omega) (fun i hi hk => by have := (hown4.lt i hk).1; omega))
      have hend := getCRel_step HI.out HS.out hx.out hsh hshort hle.out hst.out hsz.2 hR7 hown7' hbw7
      go_wp2_with (fail)
      go_roundg (if R3.e = 0 then R3.b.length + 1 else 0)
      case measure => exact Nat.lt_of_lt_of_le hend.1 hsz.1
      case rel => exact hend.2
    · have hI' : Rd.children ⟨b, 0⟩ = (acc, R) := by rw [HI.out, Rd.children_end hc]; simp
      clear HI
      have HI := Lib.hid hI'
      clear hI'
      have hIt : ChildrenOk acc := childrenOk_short hsh (by omega)
      have hSl := Sl.of_own hown
      obtain ⟨A, c, hv, _⟩ := hSl
      subst hv
      have hSl := Sl.of_own hown
      have hP := fun W h => putC_any A acc.length c acc W h hIt
      have hG := Lib.hid (show getC b = if R.e ≠ 0 ∨ (putC acc).2 ≠ 0 ∨ (putC acc).1 ≠ b then ([], 4) else (acc, 0) by unfold getC; rw [HI.out])
      unfold PutCPost at hP
      generalize putC acc = q at hP hG
      obtain ⟨back, pe⟩ := q
      dsimp only at hP hG
      have HP := Lib.hid hP
      clear hP HI hIt hlen hg hsh
      by_cases he : R.e = 0
      · have hE1 : (R.end != 0) = false := by have : R.b = [] := Classical.byContradiction fun h => hc ⟨he, h⟩; simp [Rd.end, he, this]
        have hE3 : (R.e != 0) = false := by simp [he]
        clear he hc
        go_wp2_with (go_at_call 147; go_must (refine (end_any _ _ _ hR).mono ?_); rintro e w2 ⟨rfl, rfl⟩)
        go_must (refine (HP.out _ hSl).mono ?_)
        rintro e w3 ⟨rfl, hb3⟩
        have hR3 : RdAt w3 r R := ⟨hR.1.below' hb3, hR.2⟩
        have hown3 := own_keeps hown (Keeps.of_below (S := fun _ => False) hb3) (fun _ _ h => h)
        have hbw3 := hbw.trans ((Keeps.of_below (S := fun _ => False) hb3).below hbw.size (fun _ _ h => h))
        cases hp : (pe != 0)
        · have hp0 : pe = 0 := by simpa using hp
          by_cases hk : back = b
          · have hG' : getC b = (acc, 0) := hG.out.trans (if_neg (by simp [hp0, hk]; simpa using hE3))
            have hkb : (!back == b) = false := by simp [hk]
            clear hk hp0
            go_wp2_with (go_at_call 148; go_must (refine (err_any _ _ _ hR3).mono ?_); rintro e w4 ⟨rfl, rfl⟩)
            go_ret2
            exact ⟨_, by rw [hG'] <;> rfl, by rw [hG']; exact hown3, hbw3⟩
          · have hG' : getC b = ([], 4) := hG.out.trans (if_pos (.inr (.inr hk)))
            have hkb : (!back == b) = true := by simp [hk]
            clear hk hp0
            go_wp2_with (go_at_call 148; go_must (refine (err_any _ _ _ hR3).mono ?_); rintro e w4 ⟨rfl, rfl⟩)
            go_ret2
            exact ⟨_, by rw [hG'] <;> rfl, by rw [hG']; exact World.ownsRow_nil _ _ _ _, hbw3⟩
        · have hG' : getC b = ([], 4) := hG.out.trans (if_pos (.inr (.inl (by simpa using hp))))
          go_wp2_with (go_at_call 148; go_must (refine (err_any _ _ _ hR3).mono ?_); rintro e w4 ⟨rfl, rfl⟩)
          go_ret2
          exact ⟨_, by rw [hG'] <;> rfl, by rw [hG']; exact World.ownsRow_nil _ _ _ _, hbw3⟩
      · have hE1 : (R.end != 0) = true := by simp [Rd.end, he]
        have hE2 : (R.e == 0) = false := by simp [he]
        have hE3 : (R.e != 0) = true := by simp [he]
        have hG' : getC b = ([], 4) := hG.out.trans (if_pos (.inl he))
        clear he hc
        go_wp2_with (first
          | (go_at_call 147; go_must (refine (end_any _ _ _ hR).mono ?_); rintro e w2 ⟨rfl, rfl⟩)
          | (go_at_call 148; go_must (refine (err_any _ _ _ hR).mono ?_); rintro e w2 ⟨rfl, rfl⟩))
        go_must (refine (HP.out _ hSl).mono ?_)
        rintro e w3 ⟨rfl, hb3⟩
        have hR3 : RdAt w3 r R := ⟨hR.1.below' hb3, hR.2⟩
        have hbw3 := hbw.trans ((Keeps.of_below (S := fun _ => False) hb3).below hbw.size (fun _ _ h => h))
        go_wp2_with (go_at_call 148; go_must (refine (err_any _ _ _ hR3).mono ?_); rintro e w4 ⟨rfl, rfl⟩)
        go_ret2
        exact ⟨_, by rw [hG'] <;> rfl, by rw [hG']; exact World.ownsRow_nil _ _ _ _, hbw3⟩
end Go.Ev
