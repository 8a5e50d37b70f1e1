/-
  The law arboretumlaw24.SessEnds holds, however many sessions it is asked to make, and whichever it is to end: its text is walked over the contracts of all that it calls; conditions: the row's own (the listed variables are as the program's text lays them). The law arboretumlaw24.SessEnds holds, however many sessions it is asked to make, and whichever it is to end: its text is walked over the contracts of all that it calls; conditions: the row's own (the listed variables are as the program's text lays them).
-/
import Derived.Test.YtjdimpnonjjnaaaGreatDoorMGwSessEnds
import Derived.Carry
import Derived.ChangeMaps5
import Derived.LaidMore
import Derived.Lay
import Derived.OpenShut
import Derived.ProofKit
import Derived.SevenTiedAt
import Derived.Stop.Joined
import Derived.Test.YtjdimpnonjjnaaaGreatDoorCards
import Derived.Test.YtjdimpnonjjnaaaGreatDoorTie
set_option linter.unusedVariables false
set_option linter.unusedSimpArgs false
namespace Go.Proofs.YtjdimpnonjjnaaaGreatDoor
open Go.ChangeShapes Go.WideShapes Go.ChangeAt Go.RowKit
theorem ownEnds : ownKnob Tryz.prog.godebug = none := by kernel_rfl
set_option maxRecDepth 100000 in
theorem sessEnds_lifted (os : Os) (started : os.Started) (H : Type) (enc : TypeId × Value → H) :
  ReturnsInHanded {} Tryz.checked os 4 .any (fun w args => (Rows.sessEndsSpec.pre enc Tryz.prog Tryz.f4 [] false w args ∧ laidMetH Tryz.prog Rows.sessEndsRow.laid w) ∧ sizedMet enc Tryz.prog Tryz.f4 (OpenSpec.ofChange Rows.sessEndsSpec) false w args)
   (Rows.sessEndsSpec.post enc Tryz.prog Tryz.f4 false true false false) := by
 refine returnsInHanded_of_change_and (C := Tryz.checked) (X := fun w _ => laidMetH Tryz.prog Rows.sessEndsRow.laid w) (fun _ _ _ hh h => h.of_heap hh) ownEnds started (by kernel_rfl) Tryz.func4
  (ChangeSpec.witness_shaped (enc := enc) (C := Tryz.checked) (os := os) (X := fun w _ => laidMetH Tryz.prog Rows.sessEndsRow.laid w) false (World.laidAll Tryz.prog os Rows.sessEndsRow.laid) #[.int .i64 0, .slice none 0 0] 8 (World.laidAll_os _ _ _)
   (World.shaped_of_ZipB (by kernel_rfl) (by kernel_rfl)) (by kernel_rfl) (by kernel_rfl) (by kernel_rfl)
   (by rw [MakeChecks.laidMetH_plain _ _ _ (by kernel_rfl)]; exact laidMet_laidAll _ (by kernel_rfl) (by kernel_rfl))) ?_
 intro W base args ds gs before hval0 hW _ _ hL _
 have hval : ∀ (j : Nat) t v, Tryz.f4.params[j]? = some t → args[j]? = some v → Value.okWide Tryz.prog W .any base t v := hval0
 have hW' := hW
 obtain ⟨p, q, hA0, hV, rfl, _, _⟩ := hW
 have hA : DataW.TrodAll enc Tryz.prog W 0 (fun _ => true) true Tryz.f4.params.toList args.toList ds p := hA0
 rw [Tryz.params4] at hA hval
 obtain ⟨v0, vs0, d0, ds0, p0, r0, hargs, rfl, rfl, h0, hr0⟩ := trodAll_cons hA
 obtain ⟨v1, vs1, d1, ds1, p1, r1, rfl, rfl, rfl, h1, hr1⟩ := trodAll_cons hr0
 obtain ⟨rfl, rfl, rfl⟩ := trodAll_nil hr1
 obtain rfl : args = #[v0, v1] := by cases args; simp_all
 clear hargs hr0 hr1
 obtain ⟨rfl, rfl⟩ := trodVars_none hV
 obtain ⟨bk, rfl, rfl, rfl, hbk⟩ := open_int Tryz.underlying3 (hval 0 3 v0 rfl rfl) h0
 have h1k := h1
 obtain ⟨pa, l, c, rfl⟩ := okWide_slice Tryz.underlying29 (hval 1 29 v1 rfl rfl)
 obtain ⟨fuel, hf⟩ := h1
 obtain ⟨ops, hops⟩ := Ev.slice_ints Tryz.underlying29 Tryz.underlying3 (by kernel_rfl) hf
 simp only [List.append_nil, List.nil_append] at hW'
 have hlt : ∀ x ∈ p1, x.block < W.heap.size := fun x hx => by simpa using hW'.lt x hx
 refine (Ev.ends_walk bk pa l c ops W hops).mono fun e W' ⟨hret, hw⟩ => ?_
 subst hret
 have hT0 := Below.trod (by kernel_rfl) (by kernel_rfl) (of_decide_eq_true (by kernel_rfl)) h1k hw hlt
 have hTs := trodAll_cons_mk (shut_int Tryz.underlying3 hbk) (trodAll_mk1 hT0)
 exact ⟨_, rfl, _, _, _, [], p1, [], hW', trodAll_mk1 (shut_bool Tryz.underlying4 true), (by
  simp only [List.append_nil, List.nil_append] at hTs ⊢
  exact hTs), rfl, hw.frame _, fun h => by cases h⟩
end Go.Proofs.YtjdimpnonjjnaaaGreatDoor
namespace Go.Proofs.YtjdimpnonjjnaaaGreatDoor
open Go.ChangeShapes Go.WideShapes Go.ChangeAt Go.RowKit
set_option maxHeartbeats 40000000 in
theorem sessEnds_facts : joinedFacts Tryz.prog 4 Tryz.f4 Rows.sessEndsSpec Rows.sessEndsRow = true := by kernel_rfl
set_option maxHeartbeats 40000000 in
theorem sessEnds_row : Rows.SessEndsSaid :=
 OpenClaim.holds_of_wide 4 Tryz.f4 rfl rfl rfl rfl rfl rfl rfl ⟨rfl, rfl, rfl, rfl, rfl⟩ rfl rfl rfl rfl rfl (by as_aux_lemma => kernel_rfl) Tryz.func4 sessEnds_facts
  (of_decide_eq_true (by as_aux_lemma => kernel_rfl)) (by unfold Func.isWrapper; first | (rw [if_pos (by decide +kernel)]; kernel_rfl) | (rw [if_neg (by decide +kernel)]; exact ⟨rfl, rfl⟩))
  (fun os started H enc _ => sessEnds_lifted os started H enc)
set_option maxHeartbeats 40000000 in
theorem sessEnds_holds : Rows.SessEndsCardSaid :=
 Claim7.holds_tied_plain_at .later [] [.data, .pinned] true (true, "a0432fd5101cca401364abb44e0468ba844c1872e990c273f22eab027b4ac3a9") true sessEnds_row (fun _ h => by cases h) (by as_aux_lemma => kernel_rfl) (fun _ h => by cases h) sessEnds_row_tie rfl ⟨rfl, rfl⟩ (by as_aux_lemma => kernel_rfl) rfl
  (fun f fn hf hfn => by
   obtain rfl : f = 4 := Option.some.inj ((show Tryz.prog.funcNamed "arboretum/arboretumlaw24.SessEnds" = some 4 by as_aux_lemma => kernel_rfl).symm.trans hf) |>.symm
   obtain rfl : fn = Tryz.f4 := (Option.some.inj (Tryz.func4.symm.trans hfn)).symm
   exact ⟨by as_aux_lemma => kernel_rfl, fun j t ht => by
    rw [Tryz.params4] at ht
    have hm : t ∈ [3, 29] := by simpa using Array.mem_of_getElem? ht
    have hall : ([3, 29].all fun u => !Tryz.prog.wantsStandIn u) = true := by as_aux_lemma => kernel_rfl
    exact (show Tryz.prog.wantsStandIn t = false by simpa using List.all_eq_true.1 hall t hm)⟩)
  (by as_aux_lemma => kernel_rfl)
#print axioms sessEnds_holds
end Go.Proofs.YtjdimpnonjjnaaaGreatDoor
