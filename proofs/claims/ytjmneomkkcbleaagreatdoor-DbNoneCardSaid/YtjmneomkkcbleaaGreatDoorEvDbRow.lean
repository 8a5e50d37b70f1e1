/-
  The law arboretumlaw14.DbNone holds, it has no input: it is evaluated, in the kernel, by an evaluator that is proved sound for every order and every answer of the tape; conditions: the row's own (the listed variables are as the program's text lays them).
-/
import Derived.Test.YtjmneomkkcbleaaGreatDoorEvDbRun
import Derived.Test.YtjmneomkkcbleaaGreatDoorTie
import Derived.Test.YtjmneomkkcbleaaGreatDoorCards
import Derived.ProofKit
import Derived.OpenShut
import Derived.ChangeMaps5
import Derived.LaidMore
import Derived.Lay
import Derived.SevenTiedAt
import Derived.Stop.Joined
namespace Go.Proofs.YtjmneomkkcbleaaGreatDoor
open Go.ChangeShapes Go.WideShapes Go.ChangeAt Go.RowKit

theorem kept_but {w w' : World} (h : Ev.Kept w w') (may : MemPlace → Prop) : w.keptBut w' may := by
  refine ⟨h.os, h.output, fun i hi => ?_⟩
  have h1 : w.heap[i]? = some w.heap[i] := by simp [hi]
  have h2 := h.heap i _ h1
  have h3 : w'.heap[i]? = w.heap[i]? := by rw [h1, h2]
  rw [h3]
  exact (World.keptBut_refl w may).2.2 i hi

theorem own : ownKnob Tryz.prog.godebug = none := by kernel_rfl

set_option maxRecDepth 100000 in
theorem dbNone_lifted (os : Os) (started : os.Started) (H : Type) (enc : TypeId × Value → H) :
    ReturnsInHanded {} Tryz.checked os 8 .any (fun w args => (Rows.dbNoneSpec.pre enc Tryz.prog Tryz.f8 [] false w args ∧ laidMetH Tryz.prog Rows.dbNoneRow.laid w) ∧ sizedMet enc Tryz.prog Tryz.f8 (OpenSpec.ofChange Rows.dbNoneSpec) false w args)
      (Rows.dbNoneSpec.post enc Tryz.prog Tryz.f8 false true false false) := by
  refine returnsInHanded_of_change_and (C := Tryz.checked) (X := fun w _ => laidMetH Tryz.prog Rows.dbNoneRow.laid w) (fun _ _ _ hh h => h.of_heap hh) own started (by kernel_rfl) Tryz.func8
    (ChangeSpec.witness_shaped (enc := enc) (C := Tryz.checked) (os := os) (X := fun w _ => laidMetH Tryz.prog Rows.dbNoneRow.laid w) false (World.laidAll Tryz.prog os Rows.dbNoneRow.laid) #[] 8 (World.laidAll_os _ _ _)
      (World.shaped_of_ZipB (by kernel_rfl) (by kernel_rfl)) (by kernel_rfl) (by kernel_rfl) (by kernel_rfl)
      (by rw [MakeChecks.laidMetH_plain _ _ _ (by kernel_rfl)]; exact laidMet_laidAll _ (by kernel_rfl) (by kernel_rfl))) ?_
  intro W base args ds gs before hval0 hW _ _ hL _
  have hval : ∀ (j : Nat) t v, Tryz.f8.params[j]? = some t → args[j]? = some v → Value.okWide Tryz.prog W .any base t v := hval0
  have hW' := hW
  obtain ⟨p, q, hA0, hV, rfl, _, _⟩ := hW
  have hA : DataW.TrodAll enc Tryz.prog W 0 (fun _ => true) true Tryz.f8.params.toList args.toList ds p := hA0
  rw [Tryz.params8] at hA hval
  obtain ⟨rfl, rfl, rfl⟩ := trodAll_none hA
  obtain ⟨rfl, rfl⟩ := trodVars_none hV
  simp only [List.append_nil] at hW'
  refine (call_dbNone W).mono fun e W' ⟨he, hw⟩ => ?_
  subst he
  exact ⟨_, rfl, _, _, _, [], [], [], hW', trodAll_mk1 (shut_bool Tryz.underlying4 true), trodAll_mk0, rfl, kept_but hw _, fun h => by cases h⟩

set_option maxHeartbeats 40000000 in
set_option maxRecDepth 100000 in
theorem dbNone_closure : Tryz.prog.closure 8 = [8, 42, 140, 248, 141, 142, 175, 249, 176, 273, 238, 224, 274, 336, 335, 337, 339, 386, 338, 341, 389, 403, 387, 401, 388, 402, 405, 409, 410, 406, 407, 408, 340, 275, 342, 266, 143, 93, 219, 220, 288, 352, 221, 310, 187, 223, 222, 311, 374, 375, 272, 334, 312, 376, 399, 188, 250, 213, 264, 251, 252, 322, 74, 157, 76, 253, 160, 265, 254, 155, 144, 255, 66, 177, 179, 178, 276, 145, 256, 68, 181, 278, 43, 146, 91, 216, 184, 281, 343, 280, 267, 328, 208, 307, 372, 373, 306, 363, 369, 398, 364, 393, 365, 394, 395, 366, 396, 397, 404, 367, 368, 370, 371, 217, 218, 67, 174, 180, 277, 71, 44, 147, 148, 45, 149, 257, 150, 46, 52, 151, 92, 258, 323, 379, 152, 162, 47, 12, 48, 50, 123, 185, 245, 108, 17, 77, 78, 189, 209, 289, 353, 228, 230, 239, 316, 240, 229, 313, 314, 390, 197, 294, 356, 391, 295, 235, 100, 357, 354, 302, 360, 361, 190, 79, 191, 192, 193, 290, 80, 194, 291, 16, 25, 94, 225, 226, 95, 182, 279, 227, 315, 18, 81, 195, 82, 196, 293, 292, 355, 89, 210, 211, 83, 85, 200, 201, 297, 298, 358, 392, 84, 198, 199, 296, 86, 202, 299, 203, 300, 301, 359, 204, 205, 303, 362, 99, 234, 231, 51, 153, 259, 263, 327, 382, 325, 324, 380, 260, 326, 381, 261, 154, 156, 262, 158, 159, 161, 268, 329, 270, 269, 330, 136, 53, 163, 49] := by kernel_rfl

set_option maxHeartbeats 40000000 in
theorem dbNone_facts : joinedFacts Tryz.prog 8 Tryz.f8 Rows.dbNoneSpec Rows.dbNoneRow = true := by
  unfold joinedFacts
  simp only [Bool.and_eq_true]
  repeat' apply And.intro
  all_goals (try unfold Program.recurses)
  all_goals (try unfold Program.inPlace)
  all_goals (try unfold Program.unfollowed)
  all_goals (try unfold Program.varsNamed)
  all_goals (try rw [dbNone_closure])
  all_goals (as_aux_lemma => kernel_rfl)

set_option maxHeartbeats 40000000 in
theorem dbNone_row : Rows.DbNoneSaid :=
  OpenClaim.holds_of_wide 8 Tryz.f8 rfl rfl rfl rfl rfl rfl rfl ⟨rfl, rfl, rfl, rfl, rfl⟩ rfl rfl rfl rfl rfl (by as_aux_lemma => kernel_rfl) Tryz.func8 dbNone_facts
    (of_decide_eq_true (by as_aux_lemma => kernel_rfl)) (by unfold Func.isWrapper; first | (rw [if_pos (by decide +kernel)]; kernel_rfl) | (rw [if_neg (by decide +kernel)]; exact ⟨rfl, rfl⟩))
    (fun os started H enc _ => dbNone_lifted os started H enc)
end Go.Proofs.YtjmneomkkcbleaaGreatDoor
