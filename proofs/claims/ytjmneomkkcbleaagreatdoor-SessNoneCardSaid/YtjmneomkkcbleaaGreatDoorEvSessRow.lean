/-
  The law arboretumlaw24.SessNone holds, whatever number it is handed: its text is walked over what it calls; what it calls is evaluated, in the kernel, by an evaluator that is proved sound for every order and every answer of the tape; conditions: the row's own (the listed variables are as the program's text lays them).
-/
import Derived.Test.YtjmneomkkcbleaaGreatDoorEvSessRun
import Derived.Test.YtjmneomkkcbleaaGreatDoorTie
import Derived.Test.YtjmneomkkcbleaaGreatDoorCards
import Derived.ProofKit
import Derived.OpenShut
import Derived.ChangeMaps5
import Derived.LaidMore
import Derived.Lay
import Derived.SevenTiedAt
import Derived.Stop.Joined
namespace Go.Proofs.YtjmneomkkcbleaaGreatDoor
open Go.ChangeShapes Go.WideShapes Go.ChangeAt Go.RowKit

theorem own : ownKnob Tryz.prog.godebug = none := by kernel_rfl

set_option maxRecDepth 100000 in
theorem sessNone_lifted (os : Os) (started : os.Started) (H : Type) (enc : TypeId × Value → H) :
    ReturnsInHanded {} Tryz.checked os 5 .any (fun w args => (Rows.sessNoneSpec.pre enc Tryz.prog Tryz.f5 [] false w args ∧ laidMetH Tryz.prog Rows.sessNoneRow.laid w) ∧ sizedMet enc Tryz.prog Tryz.f5 (OpenSpec.ofChange Rows.sessNoneSpec) false w args)
      (Rows.sessNoneSpec.post enc Tryz.prog Tryz.f5 false true false false) := by
  refine returnsInHanded_of_change_and (C := Tryz.checked) (X := fun w _ => laidMetH Tryz.prog Rows.sessNoneRow.laid w) (fun _ _ _ hh h => h.of_heap hh) own started (by kernel_rfl) Tryz.func5
    (ChangeSpec.witness_shaped (enc := enc) (C := Tryz.checked) (os := os) (X := fun w _ => laidMetH Tryz.prog Rows.sessNoneRow.laid w) false (World.laidAll Tryz.prog os Rows.sessNoneRow.laid) #[.int .i64 0] 8 (World.laidAll_os _ _ _)
      (World.shaped_of_ZipB (by kernel_rfl) (by kernel_rfl)) (by kernel_rfl) (by kernel_rfl) (by kernel_rfl)
      (by rw [MakeChecks.laidMetH_plain _ _ _ (by kernel_rfl)]; exact laidMet_laidAll _ (by kernel_rfl) (by kernel_rfl))) ?_
  intro W base args ds gs before hval0 hW _ _ hL _
  have hval : ∀ (j : Nat) t v, Tryz.f5.params[j]? = some t → args[j]? = some v → Value.okWide Tryz.prog W .any base t v := hval0
  have hW' := hW
  obtain ⟨p, q, hA0, hV, rfl, _, _⟩ := hW
  have hA : DataW.TrodAll enc Tryz.prog W 0 (fun _ => true) true Tryz.f5.params.toList args.toList ds p := hA0
  rw [Tryz.params5] at hA hval
  obtain ⟨v0, d0, rfl, rfl, h0⟩ := trodAll_one hA
  obtain ⟨rfl, rfl⟩ := trodVars_none hV
  obtain ⟨n, rfl, rfl, rfl, hn⟩ := open_int Tryz.underlying3 (hval 0 3 v0 rfl rfl) h0
  simp only [List.append_nil] at hW'
  refine (call_sessNone n W).mono fun e W' ⟨he, hw⟩ => ?_
  subst he
  exact ⟨_, rfl, _, _, _, [], [], [], hW', trodAll_mk1 (shut_bool Tryz.underlying4 true), trodAll_mk1 (shut_int Tryz.underlying3 hn), rfl, hw.frame _, fun h => by cases h⟩

set_option maxHeartbeats 40000000 in
set_option maxRecDepth 100000 in
theorem sessNone_closure : Tryz.prog.closure 5 = [5, 26, 28, 73, 108, 185, 17, 77, 78, 189, 209, 92, 175, 248, 176, 273, 238, 224, 274, 336, 335, 337, 339, 386, 338, 341, 389, 403, 387, 401, 388, 402, 405, 409, 410, 406, 407, 408, 340, 275, 342, 289, 353, 228, 230, 239, 316, 240, 229, 313, 314, 390, 197, 294, 356, 391, 295, 235, 100, 187, 288, 352, 188, 357, 354, 302, 360, 361, 190, 79, 191, 192, 193, 290, 80, 194, 291, 223, 186, 282, 283, 344, 345, 347, 346, 351, 348, 349, 350, 285, 284, 286, 287, 103, 96, 136, 98, 233, 222, 311, 374, 375, 272, 334, 312, 376, 399, 97, 232, 19, 81, 195, 87, 200, 206, 84, 198, 25, 94, 225, 257, 226, 184, 281, 343, 280, 267, 328, 208, 307, 372, 373, 306, 363, 369, 398, 364, 393, 365, 394, 395, 366, 396, 397, 404, 367, 368, 370, 371, 93, 219, 220, 221, 310, 95, 182, 279, 277, 227, 141, 213, 264, 199, 296, 83, 89, 210, 211, 256, 68, 181, 278, 86, 202, 299, 203, 300, 301, 359, 204, 205, 303, 362, 231, 315, 18, 82, 196, 293, 292, 355, 85, 201, 297, 298, 358, 392, 99, 234, 101, 27, 102, 236, 29, 104, 107, 24, 90, 12, 212, 214, 308, 145, 215, 309, 91, 216, 217, 178, 276, 218, 67, 174, 180, 16, 71, 123, 245, 237, 317, 377, 318, 378, 31, 30] := by kernel_rfl

set_option maxHeartbeats 40000000 in
theorem sessNone_facts : joinedFacts Tryz.prog 5 Tryz.f5 Rows.sessNoneSpec Rows.sessNoneRow = true := by
  unfold joinedFacts
  simp only [Bool.and_eq_true]
  repeat' apply And.intro
  all_goals (try unfold Program.recurses)
  all_goals (try unfold Program.inPlace)
  all_goals (try unfold Program.unfollowed)
  all_goals (try unfold Program.varsNamed)
  all_goals (try rw [sessNone_closure])
  all_goals (as_aux_lemma => kernel_rfl)

set_option maxHeartbeats 40000000 in
theorem sessNone_row : Rows.SessNoneSaid :=
  OpenClaim.holds_of_wide 5 Tryz.f5 rfl rfl rfl rfl rfl rfl rfl ⟨rfl, rfl, rfl, rfl, rfl⟩ rfl rfl rfl rfl rfl (by as_aux_lemma => kernel_rfl) Tryz.func5 sessNone_facts
    (of_decide_eq_true (by as_aux_lemma => kernel_rfl)) (by unfold Func.isWrapper; first | (rw [if_pos (by decide +kernel)]; kernel_rfl) | (rw [if_neg (by decide +kernel)]; exact ⟨rfl, rfl⟩))
    (fun os started H enc _ => sessNone_lifted os started H enc)
end Go.Proofs.YtjmneomkkcbleaaGreatDoor
