/-
  The law arboretumlaw25.KvSwaps holds, whatever it is handed: its text is walked over the contracts of all that it calls; conditions: the row's own (the listed variables are as the program's text lays them). The law arboretumlaw25.KvSwaps holds, whatever it is handed: its text is walked over the contracts of all that it calls; conditions: the row's own (the listed variables are as the program's text lays them).
-/
import Derived.Test.YtmnniabfbelpbaaGreatDoorMGwSwaps
import Derived.Carry
import Derived.ChangeMaps5
import Derived.LaidMore
import Derived.Lay
import Derived.OpenShut
import Derived.ProofKit
import Derived.SevenTiedAt
import Derived.Stop.Joined
import Derived.Test.YtmnniabfbelpbaaGreatDoorCards
import Derived.Test.YtmnniabfbelpbaaGreatDoorTie
set_option linter.unusedVariables false
set_option linter.unusedSimpArgs false
namespace Go.Proofs.YtmnniabfbelpbaaGreatDoor
open Go.ChangeShapes Go.WideShapes Go.ChangeAt Go.RowKit
theorem ownKvSwaps : ownKnob Tryz.prog.godebug = none := by kernel_rfl
set_option maxRecDepth 100000 in
theorem kvSwaps_lifted (os : Os) (started : os.Started) (H : Type) (enc : TypeId × Value → H) :
  ReturnsInHanded {} Tryz.checked os 4 .any (fun w args => (Rows.kvSwapsSpec.pre enc Tryz.prog Tryz.f4 [] false w args ∧ laidMetH Tryz.prog Rows.kvSwapsRow.laid w) ∧ sizedMet enc Tryz.prog Tryz.f4 (OpenSpec.ofChange Rows.kvSwapsSpec) false w args)
   (Rows.kvSwapsSpec.post enc Tryz.prog Tryz.f4 false true false false) := by
 refine returnsInHanded_of_change_and (C := Tryz.checked) (X := fun w _ => laidMetH Tryz.prog Rows.kvSwapsRow.laid w) (fun _ _ _ hh h => h.of_heap hh) ownKvSwaps started (by kernel_rfl) Tryz.func4
  (ChangeSpec.witness_shaped (enc := enc) (C := Tryz.checked) (os := os) (X := fun w _ => laidMetH Tryz.prog Rows.kvSwapsRow.laid w) false (World.laidAll Tryz.prog os Rows.kvSwapsRow.laid) #[.string ByteArray.empty, .string ByteArray.empty, .string ByteArray.empty, .string ByteArray.empty, .bool false] 8 (World.laidAll_os _ _ _)
   (World.shaped_of_ZipB (by kernel_rfl) (by kernel_rfl)) (by kernel_rfl) (by kernel_rfl) (by kernel_rfl)
   (by rw [MakeChecks.laidMetH_plain _ _ _ (by kernel_rfl)]; exact laidMet_laidAll _ (by kernel_rfl) (by kernel_rfl))) ?_
 intro W base args ds gs before hval0 hW _ _ hL _
 have hval : ∀ (j : Nat) t v, Tryz.f4.params[j]? = some t → args[j]? = some v → Value.okWide Tryz.prog W .any base t v := hval0
 have hW' := hW
 obtain ⟨p, q, hA0, hV, rfl, _, _⟩ := hW
 have hA : DataW.TrodAll enc Tryz.prog W 0 (fun _ => true) true Tryz.f4.params.toList args.toList ds p := hA0
 rw [Tryz.params4] at hA hval
 obtain ⟨v0, vs0, d0, ds0, p0, r0, hargs, rfl, rfl, h0, hr0⟩ := trodAll_cons hA
 obtain ⟨v1, vs1, d1, ds1, p1, r1, rfl, rfl, rfl, h1, hr1⟩ := trodAll_cons hr0
 obtain ⟨v2, vs2, d2, ds2, p2, r2, rfl, rfl, rfl, h2, hr2⟩ := trodAll_cons hr1
 obtain ⟨v3, vs3, d3, ds3, p3, r3, rfl, rfl, rfl, h3, hr3⟩ := trodAll_cons hr2
 obtain ⟨v4, vs4, d4, ds4, p4, r4, rfl, rfl, rfl, h4, hr4⟩ := trodAll_cons hr3
 obtain ⟨rfl, rfl, rfl⟩ := trodAll_nil hr4
 obtain rfl : args = #[v0, v1, v2, v3, v4] := by cases args; simp_all
 clear hargs hr0 hr1 hr2 hr3 hr4
 obtain ⟨rfl, rfl⟩ := trodVars_none hV
 have e0 : ∀ x : ByteArray, x.size ≤ maxLen → x.data.toList.length ≤ 9223372036854775807 := fun x hx => by
  have e : x.data.toList.length = x.size := Array.length_toList
  unfold maxLen at hx
  omega
 have e2 : ∀ x : ByteArray, Ev.strV x.data.toList = .string x := fun x => by
  show Value.string ⟨x.data.toList.toArray⟩ = _
  rw [Array.toArray_toList]
 obtain ⟨k0, rfl, rfl, rfl, hk0⟩ := Go.ChangeMaps.open_string Tryz.underlying9 (hval 0 9 v0 rfl rfl) h0
 obtain ⟨k1, rfl, rfl, rfl, hk1⟩ := Go.ChangeMaps.open_string Tryz.underlying9 (hval 1 9 v1 rfl rfl) h1
 obtain ⟨k2, rfl, rfl, rfl, hk2⟩ := Go.ChangeMaps.open_string Tryz.underlying9 (hval 2 9 v2 rfl rfl) h2
 obtain ⟨k3, rfl, rfl, rfl, hk3⟩ := Go.ChangeMaps.open_string Tryz.underlying9 (hval 3 9 v3 rfl rfl) h3
 obtain ⟨t4, rfl, rfl, rfl⟩ := open_bool Tryz.underlying4 (hval 4 4 v4 rfl rfl) h4
 simp only [List.append_nil, List.nil_append] at hW'
 have hcall := Ev.swaps_walk k0.data.toList k1.data.toList k2.data.toList k3.data.toList t4 W (e0 k0 hk0) (e0 k1 hk1) (e0 k2 hk2) (e0 k3 hk3)
 simp only [e2] at hcall
 refine hcall.mono fun e W' ⟨hret, hw⟩ => ?_
 subst hret
 exact ⟨_, rfl, _, _, _, [], [], [], hW', trodAll_mk1 (shut_bool Tryz.underlying4 true), (by exact trodAll_cons_mk (Go.ChangeMaps.shut_string Tryz.underlying9 hk0) (trodAll_cons_mk (Go.ChangeMaps.shut_string Tryz.underlying9 hk1) (trodAll_cons_mk (Go.ChangeMaps.shut_string Tryz.underlying9 hk2) (trodAll_cons_mk (Go.ChangeMaps.shut_string Tryz.underlying9 hk3) (trodAll_mk1 (shut_bool Tryz.underlying4 t4)))))), rfl, hw.frame _, fun h => by cases h⟩
end Go.Proofs.YtmnniabfbelpbaaGreatDoor
namespace Go.Proofs.YtmnniabfbelpbaaGreatDoor
open Go.ChangeShapes Go.WideShapes Go.ChangeAt Go.RowKit
set_option maxHeartbeats 40000000 in
theorem kvSwaps_facts : joinedFacts Tryz.prog 4 Tryz.f4 Rows.kvSwapsSpec Rows.kvSwapsRow = true := by kernel_rfl
set_option maxHeartbeats 40000000 in
theorem kvSwaps_row : Rows.KvSwapsSaid :=
 OpenClaim.holds_of_wide 4 Tryz.f4 rfl rfl rfl rfl rfl rfl rfl ⟨rfl, rfl, rfl, rfl, rfl⟩ rfl rfl rfl rfl rfl (by as_aux_lemma => kernel_rfl) Tryz.func4 kvSwaps_facts
  (of_decide_eq_true (by as_aux_lemma => kernel_rfl)) (by unfold Func.isWrapper; first | (rw [if_pos (by decide +kernel)]; kernel_rfl) | (rw [if_neg (by decide +kernel)]; exact ⟨rfl, rfl⟩))
  (fun os started H enc _ => kvSwaps_lifted os started H enc)
set_option maxHeartbeats 40000000 in
theorem kvSwaps_holds : Rows.KvSwapsCardSaid :=
 Claim7.holds_tied_plain_at .later [] [.data, .pinned] true (true, "00bae5fdb1bd8957596b29331fe82d4053fd64e08923aa35f759d8d70aa7d9eb") true kvSwaps_row (fun _ h => by cases h) (by as_aux_lemma => kernel_rfl) (fun _ h => by cases h) kvSwaps_row_tie rfl ⟨rfl, rfl⟩ (by as_aux_lemma => kernel_rfl) rfl
  (fun f fn hf hfn => by
   obtain rfl : f = 4 := Option.some.inj ((show Tryz.prog.funcNamed "arboretum/arboretumlaw25.KvSwaps" = some 4 by as_aux_lemma => kernel_rfl).symm.trans hf) |>.symm
   obtain rfl : fn = Tryz.f4 := (Option.some.inj (Tryz.func4.symm.trans hfn)).symm
   exact ⟨by as_aux_lemma => kernel_rfl, fun j t ht => by
    rw [Tryz.params4] at ht
    have hm : t ∈ [9, 9, 9, 9, 4] := by simpa using Array.mem_of_getElem? ht
    have hall : ([9, 9, 9, 9, 4].all fun u => !Tryz.prog.wantsStandIn u) = true := by as_aux_lemma => kernel_rfl
    exact (show Tryz.prog.wantsStandIn t = false by simpa using List.all_eq_true.1 hall t hm)⟩)
  (by as_aux_lemma => kernel_rfl)
#print axioms kvSwaps_holds
end Go.Proofs.YtmnniabfbelpbaaGreatDoor
