/-
  The law arboretumlaw25.KvOnce holds, whatever it is handed: its text is walked over the contracts of all that it calls; conditions: the row's own (the listed variables are as the program's text lays them). The law arboretumlaw25.KvOnce holds, whatever it is handed: its text is walked over the contracts of all that it calls; conditions: the row's own (the listed variables are as the program's text lays them).
-/
import Derived.Test.YtmfoiaaehkandaaGreatDoorMOGwOnce25
import Derived.Carry
import Derived.ChangeMaps5
import Derived.LaidMore
import Derived.Lay
import Derived.OpenShut
import Derived.ProofKit
import Derived.SevenTiedAt
import Derived.Stop.Joined
import Derived.Test.YtmfoiaaehkandaaGreatDoorCards
import Derived.Test.YtmfoiaaehkandaaGreatDoorTie
set_option linter.unusedVariables false
set_option linter.unusedSimpArgs false
namespace Go.Proofs.YtmfoiaaehkandaaGreatDoor
open Go.ChangeShapes Go.WideShapes Go.ChangeAt Go.RowKit
theorem ownKvOnce : ownKnob Tryz.prog.godebug = none := by kernel_rfl
set_option maxRecDepth 100000 in
theorem kvOnce_lifted (os : Os) (started : os.Started) (H : Type) (enc : TypeId × Value → H) :
  ReturnsInHanded {} Tryz.checked os 6 .any (fun w args => (Rows.kvOnceSpec.pre enc Tryz.prog Tryz.f6 [] false w args ∧ laidMetH Tryz.prog Rows.kvOnceRow.laid w) ∧ sizedMet enc Tryz.prog Tryz.f6 (OpenSpec.ofChange Rows.kvOnceSpec) false w args)
   (Rows.kvOnceSpec.post enc Tryz.prog Tryz.f6 false true false false) := by
 refine returnsInHanded_of_change_and (C := Tryz.checked) (X := fun w _ => laidMetH Tryz.prog Rows.kvOnceRow.laid w) (fun _ _ _ hh h => h.of_heap hh) ownKvOnce started (by kernel_rfl) Tryz.func6
  (ChangeSpec.witness_shaped (enc := enc) (C := Tryz.checked) (os := os) (X := fun w _ => laidMetH Tryz.prog Rows.kvOnceRow.laid w) false (World.laidAll Tryz.prog os Rows.kvOnceRow.laid) #[.slice none 0 0, .slice none 0 0] 8 (World.laidAll_os _ _ _)
   (World.shaped_of_ZipB (by kernel_rfl) (by kernel_rfl)) (by kernel_rfl) (by kernel_rfl) (by kernel_rfl)
   (by rw [MakeChecks.laidMetH_plain _ _ _ (by kernel_rfl)]; exact laidMet_laidAll _ (by kernel_rfl) (by kernel_rfl))) ?_
 intro W base args ds gs before hval0 hW _ _ hL _
 have hval : ∀ (j : Nat) t v, Tryz.f6.params[j]? = some t → args[j]? = some v → Value.okWide Tryz.prog W .any base t v := hval0
 have hW' := hW
 obtain ⟨p, q, hA0, hV, rfl, _, _⟩ := hW
 have hA : DataW.TrodAll enc Tryz.prog W 0 (fun _ => true) true Tryz.f6.params.toList args.toList ds p := hA0
 rw [Tryz.params6] at hA hval
 obtain ⟨v0, vs0, d0, ds0, p0, r0, hargs, rfl, rfl, h0, hr0⟩ := trodAll_cons hA
 obtain ⟨v1, vs1, d1, ds1, p1, r1, rfl, rfl, rfl, h1, hr1⟩ := trodAll_cons hr0
 obtain ⟨rfl, rfl, rfl⟩ := trodAll_nil hr1
 obtain rfl : args = #[v0, v1] := by cases args; simp_all
 clear hargs hr0 hr1
 obtain ⟨rfl, rfl⟩ := trodVars_none hV
 have h0k := h0
 obtain ⟨pa0, l0, c0, rfl⟩ := okWide_slice Tryz.underlying65 (hval 0 65 v0 rfl rfl)
 obtain ⟨fuel0, hf0⟩ := h0
 obtain ⟨ops0, hops0, hgood0⟩ := Ev.slice_kops Tryz.underlying65 Tryz.underlying76 (by kernel_rfl) rfl rfl rfl rfl rfl rfl rfl rfl rfl rfl rfl rfl (by kernel_rfl) (by kernel_rfl) (by kernel_rfl) (by kernel_rfl) (by kernel_rfl) (by kernel_rfl) Tryz.underlying3 Tryz.underlying3 Tryz.underlying3 Tryz.underlying9 Tryz.underlying9 Tryz.underlying9 hf0
 have h1k := h1
 obtain ⟨pa1, l1, c1, rfl⟩ := okWide_slice Tryz.underlying35 (hval 1 35 v1 rfl rfl)
 obtain ⟨fuel1, hf1⟩ := h1
 obtain ⟨ops1, hops1⟩ := Ev.slice_ints Tryz.underlying35 Tryz.underlying3 (by kernel_rfl) hf1
 simp only [List.append_nil, List.nil_append] at hW'
 have hlt0 : ∀ x ∈ p0, x.block < W.heap.size := fun x hx => hW'.lt x (by simp [hx])
 have hlt1 : ∀ x ∈ p1, x.block < W.heap.size := fun x hx => hW'.lt x (by simp [hx])
 have hcall := Ev.once25_walk pa0 l0 c0 ops0 pa1 l1 c1 ops1 W hops0 hgood0 hops1
 refine hcall.mono fun e W' ⟨hret, hw⟩ => ?_
 subst hret
 have hT0 := Below.trod (by kernel_rfl) (by kernel_rfl) (of_decide_eq_true (by kernel_rfl)) h0k hw hlt0
 have hT1 := Below.trod (by kernel_rfl) (by kernel_rfl) (of_decide_eq_true (by kernel_rfl)) h1k hw hlt1
 have hTs := trodAll_cons_mk hT0 (trodAll_mk1 hT1)
 exact ⟨_, rfl, _, _, _, [], p0 ++ p1, [], hW', trodAll_mk1 (shut_bool Tryz.underlying4 true), (by
  simp only [List.append_nil, List.nil_append] at hTs ⊢
  exact hTs), rfl, hw.frame _, fun h => by cases h⟩
end Go.Proofs.YtmfoiaaehkandaaGreatDoor
namespace Go.Proofs.YtmfoiaaehkandaaGreatDoor
open Go.ChangeShapes Go.WideShapes Go.ChangeAt Go.RowKit
set_option maxHeartbeats 40000000 in
theorem kvOnce_facts : joinedFacts Tryz.prog 6 Tryz.f6 Rows.kvOnceSpec Rows.kvOnceRow = true := by kernel_rfl
set_option maxHeartbeats 40000000 in
theorem kvOnce_row : Rows.KvOnceSaid :=
 OpenClaim.holds_of_wide 6 Tryz.f6 rfl rfl rfl rfl rfl rfl rfl ⟨rfl, rfl, rfl, rfl, rfl⟩ rfl rfl rfl rfl rfl (by as_aux_lemma => kernel_rfl) Tryz.func6 kvOnce_facts
  (of_decide_eq_true (by as_aux_lemma => kernel_rfl)) (by unfold Func.isWrapper; first | (rw [if_pos (by decide +kernel)]; kernel_rfl) | (rw [if_neg (by decide +kernel)]; exact ⟨rfl, rfl⟩))
  (fun os started H enc _ => kvOnce_lifted os started H enc)
set_option maxHeartbeats 40000000 in
theorem kvOnce_holds : Rows.KvOnceCardSaid :=
 Claim7.holds_tied_plain_at .later [] [.data, .pinned] true (true, "7fe17c42c0e49ccfca31a765acb9a0d2e44b8c2aa015a748bce073b15958d515") true kvOnce_row (fun _ h => by cases h) (by as_aux_lemma => kernel_rfl) (fun _ h => by cases h) kvOnce_row_tie rfl ⟨rfl, rfl⟩ (by as_aux_lemma => kernel_rfl) rfl
  (fun f fn hf hfn => by
   obtain rfl : f = 6 := Option.some.inj ((show Tryz.prog.funcNamed "arboretum/arboretumlaw25.KvOnce" = some 6 by as_aux_lemma => kernel_rfl).symm.trans hf) |>.symm
   obtain rfl : fn = Tryz.f6 := (Option.some.inj (Tryz.func6.symm.trans hfn)).symm
   exact ⟨by as_aux_lemma => kernel_rfl, fun j t ht => by
    rw [Tryz.params6] at ht
    have hm : t ∈ [65, 35] := by simpa using Array.mem_of_getElem? ht
    have hall : ([65, 35].all fun u => !Tryz.prog.wantsStandIn u) = true := by as_aux_lemma => kernel_rfl
    exact (show Tryz.prog.wantsStandIn t = false by simpa using List.all_eq_true.1 hall t hm)⟩)
  (by as_aux_lemma => kernel_rfl)
#print axioms kvOnce_holds
end Go.Proofs.YtmfoiaaehkandaaGreatDoor
