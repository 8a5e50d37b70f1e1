/-
  The law arboretumlaw12.CursPlays holds, whatever steps, whatever calls, whatever two keys and whatever bound it is handed: its text is walked over the contracts of all that it calls; conditions: the row's own (the listed variables are as the program's text lays them). The law arboretumlaw12.CursPlays holds, whatever steps, whatever calls, whatever two keys and whatever bound it is handed: its text is walked over the contracts of all that it calls; conditions: the row's own (the listed variables are as the program's text lays them).
-/
import Derived.Test.YtgfmhppkmogdhaaGreatDoorMPGwPlays
import Derived.Carry
import Derived.Test.YtgfmhppkmogdhaaGreatDoorTie
import Derived.Test.YtgfmhppkmogdhaaGreatDoorCards
import Derived.ProofKit
import Derived.OpenShut
import Derived.ChangeMaps5
import Derived.LaidMore
import Derived.Lay
import Derived.SevenTiedAt
import Derived.Stop.Joined
set_option linter.unusedVariables false
set_option linter.unusedSimpArgs false
set_option linter.unusedVariables false
set_option linter.unusedSimpArgs false
namespace Go.Proofs.YtgfmhppkmogdhaaGreatDoor
open Go.ChangeShapes Go.WideShapes Go.ChangeAt Go.RowKit

theorem ownPlays : ownKnob Tryz.prog.godebug = none := by kernel_rfl

set_option maxRecDepth 100000 in
theorem cursPlays_lifted (os : Os) (started : os.Started) (H : Type) (enc : TypeId × Value → H) :
    ReturnsInHanded {} Tryz.checked os 4 .any (fun w args => (Rows.cursPlaysSpec.pre enc Tryz.prog Tryz.f4 [] false w args ∧ laidMetH Tryz.prog Rows.cursPlaysRow.laid w) ∧ sizedMet enc Tryz.prog Tryz.f4 (OpenSpec.ofChange Rows.cursPlaysSpec) false w args)
      (Rows.cursPlaysSpec.post enc Tryz.prog Tryz.f4 false true false false) := by
  refine returnsInHanded_of_change_and (C := Tryz.checked) (X := fun w _ => laidMetH Tryz.prog Rows.cursPlaysRow.laid w) (fun _ _ _ hh h => h.of_heap hh) ownPlays started (by kernel_rfl) Tryz.func4
    (ChangeSpec.witness_shaped (enc := enc) (C := Tryz.checked) (os := os) (X := fun w _ => laidMetH Tryz.prog Rows.cursPlaysRow.laid w) false (World.laidAll Tryz.prog os Rows.cursPlaysRow.laid) #[.slice none 0 0, .slice none 0 0, .string ByteArray.empty, .string ByteArray.empty, .int .i64 0] 8 (World.laidAll_os _ _ _)
      (World.shaped_of_ZipB (by kernel_rfl) (by kernel_rfl)) (by kernel_rfl) (by kernel_rfl) (by kernel_rfl)
      (by rw [MakeChecks.laidMetH_plain _ _ _ (by kernel_rfl)]; exact laidMet_laidAll _ (by kernel_rfl) (by kernel_rfl))) ?_
  intro W base args ds gs before hval0 hW _ _ hL _
  have hval : ∀ (j : Nat) t v, Tryz.f4.params[j]? = some t → args[j]? = some v → Value.okWide Tryz.prog W .any base t v := hval0
  have hW' := hW
  obtain ⟨p, q, hA0, hV, rfl, _, _⟩ := hW
  have hA : DataW.TrodAll enc Tryz.prog W 0 (fun _ => true) true Tryz.f4.params.toList args.toList ds p := hA0
  rw [Tryz.params4] at hA hval
  obtain ⟨v0, vs0, d0, ds0, p0, r0, hargs, rfl, rfl, h0, hr0⟩ := trodAll_cons hA
  obtain ⟨v1, vs1, d1, ds1, p1, r1, rfl, rfl, rfl, h1, hr1⟩ := trodAll_cons hr0
  obtain ⟨v2, vs2, d2, ds2, p2, r2, rfl, rfl, rfl, h2, hr2⟩ := trodAll_cons hr1
  obtain ⟨v3, vs3, d3, ds3, p3, r3, rfl, rfl, rfl, h3, hr3⟩ := trodAll_cons hr2
  obtain ⟨v4, vs4, d4, ds4, p4, r4, rfl, rfl, rfl, h4, hr4⟩ := trodAll_cons hr3
  obtain ⟨rfl, rfl, rfl⟩ := trodAll_nil hr4
  obtain rfl : args = #[v0, v1, v2, v3, v4] := by cases args; simp_all
  clear hargs hr0 hr1 hr2 hr3 hr4
  obtain ⟨rfl, rfl⟩ := trodVars_none hV
  obtain ⟨k2, rfl, rfl, rfl, hk2⟩ := Go.ChangeMaps.open_string Tryz.underlying9 (hval 2 9 v2 rfl rfl) h2
  obtain ⟨k3, rfl, rfl, rfl, hk3⟩ := Go.ChangeMaps.open_string Tryz.underlying9 (hval 3 9 v3 rfl rfl) h3
  obtain ⟨m4, rfl, rfl, rfl, hm4⟩ := open_int Tryz.underlying3 (hval 4 3 v4 rfl rfl) h4
  have h0k := h0
  obtain ⟨pa, l, c, rfl⟩ := okWide_slice Tryz.underlying22 (hval 0 22 v0 rfl rfl)
  have h1k := h1
  obtain ⟨pb, lb, cb, rfl⟩ := okWide_slice Tryz.underlying35 (hval 1 35 v1 rfl rfl)
  obtain ⟨fuel, hf⟩ := h0
  obtain ⟨fuel1, hf1⟩ := h1
  obtain ⟨ops2, hops2⟩ := Ev.slice_opks Tryz.underlying35 Tryz.underlying39 (by kernel_rfl) (by kernel_rfl) rfl rfl Tryz.underlying3 Tryz.underlying9 hf1
  obtain ⟨ops, hops⟩ := Ev.slice_ops Tryz.underlying22 Tryz.underlying76 (by kernel_rfl) (by kernel_rfl) rfl rfl rfl Tryz.underlying3 Tryz.underlying9 Tryz.underlying9 hf
  simp only [List.append_nil] at hW'
  have hlt : ∀ x ∈ p0, x.block < W.heap.size := fun x hx => by simpa using hW'.lt x (List.mem_append_left _ hx)
  have hlt1 : ∀ x ∈ p1, x.block < W.heap.size := fun x hx => by simpa using hW'.lt x (List.mem_append_right _ hx)
  refine (Ev.call_cursPlays pa l c ops pb lb cb ops2 k2 k3 m4 W hops hops2 hk2 hk3).mono fun e W' ⟨hret, hw⟩ => ?_
  subst hret
  have hT0 := Below.trod (by kernel_rfl) (by kernel_rfl) (of_decide_eq_true (by kernel_rfl)) h0k hw hlt
  have hT1 := Below.trod (by kernel_rfl) (by kernel_rfl) (of_decide_eq_true (by kernel_rfl)) h1k hw hlt1
  have hTs := trodAll_cons_mk hT0 (trodAll_cons_mk hT1 (trodAll_cons_mk (Go.ChangeMaps.shut_string Tryz.underlying9 hk2) (trodAll_cons_mk (Go.ChangeMaps.shut_string Tryz.underlying9 hk3) (trodAll_mk1 (shut_int Tryz.underlying3 hm4)))))
  exact ⟨_, rfl, _, _, _, [], p0 ++ p1, [], hW', trodAll_mk1 (shut_bool Tryz.underlying4 true), (by
    simp only [List.append_nil] at hTs
    exact hTs), rfl, hw.frame _, fun h => by cases h⟩
end Go.Proofs.YtgfmhppkmogdhaaGreatDoor

set_option linter.unusedVariables false
set_option linter.unusedSimpArgs false
namespace Go.Proofs.YtgfmhppkmogdhaaGreatDoor
open Go.ChangeShapes Go.WideShapes Go.ChangeAt Go.RowKit

set_option maxHeartbeats 40000000 in
theorem cursPlays_facts : joinedFacts Tryz.prog 4 Tryz.f4 Rows.cursPlaysSpec Rows.cursPlaysRow = true := by
  unfold joinedFacts
  simp only [Bool.and_eq_true]
  repeat' apply And.intro
  all_goals (as_aux_lemma => kernel_rfl)

set_option maxHeartbeats 40000000 in
theorem cursPlays_row : Rows.CursPlaysSaid :=
  OpenClaim.holds_of_wide 4 Tryz.f4 rfl rfl rfl rfl rfl rfl rfl ⟨rfl, rfl, rfl, rfl, rfl⟩ rfl rfl rfl rfl rfl (by as_aux_lemma => kernel_rfl) Tryz.func4 cursPlays_facts
    (of_decide_eq_true (by as_aux_lemma => kernel_rfl)) (by unfold Func.isWrapper; first | (rw [if_pos (by decide +kernel)]; kernel_rfl) | (rw [if_neg (by decide +kernel)]; exact ⟨rfl, rfl⟩))
    (fun os started H enc _ => cursPlays_lifted os started H enc)

set_option maxHeartbeats 40000000 in
theorem cursPlays_holds : Rows.CursPlaysCardSaid :=
  Claim7.holds_tied_plain_at .later [] [.data, .pinned] true (true, "a33b2f475c1f761503b948178bd5576aa5a86259ebb8432500d7311015f6b41b") true cursPlays_row (fun _ h => by cases h) (by as_aux_lemma => kernel_rfl) (fun _ h => by cases h) cursPlays_row_tie rfl ⟨rfl, rfl⟩ (by as_aux_lemma => kernel_rfl) rfl
    (fun f fn hf hfn => by
      obtain rfl : f = 4 := Option.some.inj ((show Tryz.prog.funcNamed "arboretum/arboretumlaw12.CursPlays" = some 4 by as_aux_lemma => kernel_rfl).symm.trans hf) |>.symm
      obtain rfl : fn = Tryz.f4 := (Option.some.inj (Tryz.func4.symm.trans hfn)).symm
      exact ⟨by as_aux_lemma => kernel_rfl, fun j t ht => by
        rw [Tryz.params4] at ht
        have hm : t ∈ [22, 35, 9, 9, 3] := by simpa using Array.mem_of_getElem? ht
        have hall : ([22, 35, 9, 9, 3].all fun u => !Tryz.prog.wantsStandIn u) = true := by as_aux_lemma => kernel_rfl
        exact (show Tryz.prog.wantsStandIn t = false by simpa using List.all_eq_true.1 hall t hm)⟩)
    (by as_aux_lemma => kernel_rfl)
#print axioms cursPlays_holds
end Go.Proofs.YtgfmhppkmogdhaaGreatDoor
