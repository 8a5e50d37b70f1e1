/-
  The law arboretumlaw11.TreeOrders holds, whatever steps it is handed: its text is walked over the contracts of all that it calls; conditions: the row's own (the listed variables are as the program's text lays them). The law arboretumlaw11.TreeOrders holds, whatever steps it is handed: its text is walked over the contracts of all that it calls; conditions: the row's own (the listed variables are as the program's text lays them).
-/
import Derived.Test.YtgfmhppkmogdhaaGreatDoorMOGwOrders
import Derived.Test.YtgfmhppkmogdhaaGreatDoorMOGwAlive11
import Derived.Carry
import Derived.Test.YtgfmhppkmogdhaaGreatDoorTie
import Derived.Test.YtgfmhppkmogdhaaGreatDoorCards
import Derived.ProofKit
import Derived.OpenShut
import Derived.ChangeMaps5
import Derived.LaidMore
import Derived.Lay
import Derived.SevenTiedAt
import Derived.Stop.Joined
set_option linter.unusedVariables false
set_option linter.unusedSimpArgs false
set_option linter.unusedVariables false
set_option linter.unusedSimpArgs false
namespace Go.Proofs.YtgfmhppkmogdhaaGreatDoor
open Go.ChangeShapes Go.WideShapes Go.ChangeAt Go.RowKit

theorem ownOrders : ownKnob Tryz.prog.godebug = none := by kernel_rfl

set_option maxRecDepth 100000 in
theorem treeOrders_lifted (os : Os) (started : os.Started) (H : Type) (enc : TypeId × Value → H) :
    ReturnsInHanded {} Tryz.checked os 6 .any (fun w args => (Rows.treeOrdersSpec.pre enc Tryz.prog Tryz.f6 [] false w args ∧ laidMetH Tryz.prog Rows.treeOrdersRow.laid w) ∧ sizedMet enc Tryz.prog Tryz.f6 (OpenSpec.ofChange Rows.treeOrdersSpec) false w args)
      (Rows.treeOrdersSpec.post enc Tryz.prog Tryz.f6 false true false false) := by
  refine returnsInHanded_of_change_and (C := Tryz.checked) (X := fun w _ => laidMetH Tryz.prog Rows.treeOrdersRow.laid w) (fun _ _ _ hh h => h.of_heap hh) ownOrders started (by kernel_rfl) Tryz.func6
    (ChangeSpec.witness_shaped (enc := enc) (C := Tryz.checked) (os := os) (X := fun w _ => laidMetH Tryz.prog Rows.treeOrdersRow.laid w) false (World.laidAll Tryz.prog os Rows.treeOrdersRow.laid) #[.slice none 0 0] 8 (World.laidAll_os _ _ _)
      (World.shaped_of_ZipB (by kernel_rfl) (by kernel_rfl)) (by kernel_rfl) (by kernel_rfl) (by kernel_rfl)
      (by rw [MakeChecks.laidMetH_plain _ _ _ (by kernel_rfl)]; exact laidMet_laidAll _ (by kernel_rfl) (by kernel_rfl))) ?_
  intro W base args ds gs before hval0 hW _ _ hL _
  have hval : ∀ (j : Nat) t v, Tryz.f6.params[j]? = some t → args[j]? = some v → Value.okWide Tryz.prog W .any base t v := hval0
  have hW' := hW
  obtain ⟨p, q, hA0, hV, rfl, _, _⟩ := hW
  have hA : DataW.TrodAll enc Tryz.prog W 0 (fun _ => true) true Tryz.f6.params.toList args.toList ds p := hA0
  rw [Tryz.params6] at hA hval
  obtain ⟨v0, vs0, d0, ds0, p0, r0, hargs, rfl, rfl, h0, hr0⟩ := trodAll_cons hA
  obtain ⟨rfl, rfl, rfl⟩ := trodAll_nil hr0
  obtain rfl : args = #[v0] := by cases args; simp_all
  clear hargs hr0
  obtain ⟨rfl, rfl⟩ := trodVars_none hV
  have h0k := h0
  obtain ⟨pa, l, c, rfl⟩ := okWide_slice Tryz.underlying22 (hval 0 22 v0 rfl rfl)
  obtain ⟨fuel, hf⟩ := h0
  obtain ⟨ops, hops⟩ := Ev.slice_ops Tryz.underlying22 Tryz.underlying76 (by kernel_rfl) (by kernel_rfl) rfl rfl rfl Tryz.underlying3 Tryz.underlying9 Tryz.underlying9 hf
  simp only [List.append_nil] at hW'
  have hlt : ∀ x ∈ p0, x.block < W.heap.size := fun x hx => by simpa using hW'.lt x hx
  refine (Ev.call_treeOrders Ev.alive11 pa l c ops W hops).mono fun e W' ⟨hret, hw⟩ => ?_
  subst hret
  have hT0 := Below.trod (by kernel_rfl) (by kernel_rfl) (of_decide_eq_true (by kernel_rfl)) h0k hw hlt
  have hTs := trodAll_mk1 hT0
  exact ⟨_, rfl, _, _, _, [], p0, [], hW', trodAll_mk1 (shut_bool Tryz.underlying4 true), hTs, rfl, hw.frame _, fun h => by cases h⟩
end Go.Proofs.YtgfmhppkmogdhaaGreatDoor

set_option linter.unusedVariables false
set_option linter.unusedSimpArgs false
namespace Go.Proofs.YtgfmhppkmogdhaaGreatDoor
open Go.ChangeShapes Go.WideShapes Go.ChangeAt Go.RowKit

set_option maxHeartbeats 40000000 in
theorem treeOrders_facts : joinedFacts Tryz.prog 6 Tryz.f6 Rows.treeOrdersSpec Rows.treeOrdersRow = true := by kernel_rfl

set_option maxHeartbeats 40000000 in
theorem treeOrders_row : Rows.TreeOrdersSaid :=
  OpenClaim.holds_of_wide 6 Tryz.f6 rfl rfl rfl rfl rfl rfl rfl ⟨rfl, rfl, rfl, rfl, rfl⟩ rfl rfl rfl rfl rfl (by as_aux_lemma => kernel_rfl) Tryz.func6 treeOrders_facts
    (of_decide_eq_true (by as_aux_lemma => kernel_rfl)) (by unfold Func.isWrapper; first | (rw [if_pos (by decide +kernel)]; kernel_rfl) | (rw [if_neg (by decide +kernel)]; exact ⟨rfl, rfl⟩))
    (fun os started H enc _ => treeOrders_lifted os started H enc)

set_option maxHeartbeats 40000000 in
theorem treeOrders_holds : Rows.TreeOrdersCardSaid :=
  Claim7.holds_tied_plain_at .later [] [.data, .pinned] true (true, "a33b2f475c1f761503b948178bd5576aa5a86259ebb8432500d7311015f6b41b") true treeOrders_row (fun _ h => by cases h) (by as_aux_lemma => kernel_rfl) (fun _ h => by cases h) treeOrders_row_tie rfl ⟨rfl, rfl⟩ (by as_aux_lemma => kernel_rfl) rfl
    (fun f fn hf hfn => by
      obtain rfl : f = 6 := Option.some.inj ((show Tryz.prog.funcNamed "arboretum/arboretumlaw11.TreeOrders" = some 6 by as_aux_lemma => kernel_rfl).symm.trans hf) |>.symm
      obtain rfl : fn = Tryz.f6 := (Option.some.inj (Tryz.func6.symm.trans hfn)).symm
      exact ⟨by as_aux_lemma => kernel_rfl, fun j t ht => by
        rw [Tryz.params6] at ht
        have hm : t ∈ [22] := by simpa using Array.mem_of_getElem? ht
        have hall : ([22].all fun u => !Tryz.prog.wantsStandIn u) = true := by as_aux_lemma => kernel_rfl
        exact (show Tryz.prog.wantsStandIn t = false by simpa using List.all_eq_true.1 hall t hm)⟩)
    (by as_aux_lemma => kernel_rfl)
#print axioms treeOrders_holds
end Go.Proofs.YtgfmhppkmogdhaaGreatDoor
