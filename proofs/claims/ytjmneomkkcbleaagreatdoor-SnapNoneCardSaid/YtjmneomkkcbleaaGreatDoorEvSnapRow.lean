/-
  The law arboretumlaw22.SnapNone holds, whatever message it is handed: its text is walked over what it calls; what it calls is evaluated, in the kernel, by an evaluator that is proved sound for every order and every answer of the tape; conditions: the row's own (the listed variables are as the program's text lays them).
-/
import Derived.Test.YtjmneomkkcbleaaGreatDoorEvSnapRun
import Derived.Test.YtjmneomkkcbleaaGreatDoorEvSnapOpen
import Derived.Carry
import Derived.Test.YtjmneomkkcbleaaGreatDoorTie
import Derived.Test.YtjmneomkkcbleaaGreatDoorCards
import Derived.ProofKit
import Derived.OpenShut
import Derived.ChangeMaps5
import Derived.LaidMore
import Derived.Lay
import Derived.SevenTiedAt
import Derived.Stop.Joined
namespace Go.Proofs.YtjmneomkkcbleaaGreatDoor
open Go.ChangeShapes Go.WideShapes Go.ChangeAt Go.RowKit

theorem own : ownKnob Tryz.prog.godebug = none := by kernel_rfl

set_option maxRecDepth 100000 in
theorem snapNone_lifted (os : Os) (started : os.Started) (H : Type) (enc : TypeId × Value → H) :
    ReturnsInHanded {} Tryz.checked os 9 .any (fun w args => (Rows.snapNoneSpec.pre enc Tryz.prog Tryz.f9 [] false w args ∧ laidMetH Tryz.prog Rows.snapNoneRow.laid w) ∧ sizedMet enc Tryz.prog Tryz.f9 (OpenSpec.ofChange Rows.snapNoneSpec) false w args)
      (Rows.snapNoneSpec.post enc Tryz.prog Tryz.f9 false true false false) := by
  refine returnsInHanded_of_change_and (C := Tryz.checked) (X := fun w _ => laidMetH Tryz.prog Rows.snapNoneRow.laid w) (fun _ _ _ hh h => h.of_heap hh) own started (by kernel_rfl) Tryz.func9
    (ChangeSpec.witness_shaped (enc := enc) (C := Tryz.checked) (os := os) (X := fun w _ => laidMetH Tryz.prog Rows.snapNoneRow.laid w) false (World.laidAll Tryz.prog os Rows.snapNoneRow.laid) #[.agg #[.int .i64 0, .int .i64 0, .int .i64 0, .int .i64 0, .int .i64 0, .int .i64 0, .int .i64 0, .int .i64 0, .bool false, .bool false, .slice none 0 0, .slice none 0 0, .int .i64 0, .slice none 0 0]] 8 (World.laidAll_os _ _ _)
      (World.shaped_of_ZipB (by kernel_rfl) (by kernel_rfl)) (by kernel_rfl) (by kernel_rfl) (by kernel_rfl)
      (by rw [MakeChecks.laidMetH_plain _ _ _ (by kernel_rfl)]; exact laidMet_laidAll _ (by kernel_rfl) (by kernel_rfl))) ?_
  intro W base args ds gs before hval0 hW _ _ hL _
  have hval : ∀ (j : Nat) t v, Tryz.f9.params[j]? = some t → args[j]? = some v → Value.okWide Tryz.prog W .any base t v := hval0
  have hW' := hW
  obtain ⟨p, q, hA0, hV, rfl, _, _⟩ := hW
  have hA : DataW.TrodAll enc Tryz.prog W 0 (fun _ => true) true Tryz.f9.params.toList args.toList ds p := hA0
  rw [Tryz.params9] at hA hval
  obtain ⟨v0, d0, rfl, rfl, h0⟩ := trodAll_one hA
  obtain ⟨rfl, rfl⟩ := trodVars_none hV
  have h0k := h0
  obtain ⟨c0, c1, c2, c3, c4, c5, c6, c7, c8, c9, c12, pe, pm, pp, le, ce, lm, cm, lp, cp, rfl, he, hp, hp1, hle, hlm, hlp⟩ := Ev.open_msg (hval 0 111 v0 rfl rfl) h0
  simp only [List.append_nil] at hW'
  have hlt : ∀ x ∈ p, x.block < W.heap.size := fun x hx => by simpa using hW'.lt x hx
  refine (call_snapNone c0 c1 c2 c3 c4 c5 c6 c7 c8 c9 c12 pe pm pp le ce lm cm lp cp W he hp hp1 (by unfold maxLen at hle; omega) (by unfold maxLen at hlm; omega) (by unfold maxLen at hlp; omega)).mono fun e W' ⟨hret, hw⟩ => ?_
  subst hret
  exact ⟨_, rfl, _, _, _, [], p, [], hW', trodAll_mk1 (shut_bool Tryz.underlying4 true), trodAll_mk1 (Below.trod (by kernel_rfl) (by kernel_rfl) (of_decide_eq_true (by kernel_rfl)) h0k hw hlt), rfl, hw.frame _, fun h => by cases h⟩

set_option maxHeartbeats 40000000 in
set_option maxRecDepth 100000 in
theorem snapNone_closure : Tryz.prog.closure 9 = [9, 54, 105, 164, 55, 165, 12, 42, 140, 248, 141, 142, 175, 249, 176, 273, 238, 224, 274, 336, 335, 337, 339, 386, 338, 341, 389, 403, 387, 401, 388, 402, 405, 409, 410, 406, 407, 408, 340, 275, 342, 266, 143, 93, 219, 220, 288, 352, 221, 310, 187, 223, 222, 311, 374, 375, 272, 334, 312, 376, 399, 188, 250, 213, 264, 251, 252, 322, 74, 157, 76, 253, 160, 265, 254, 155, 144, 255, 66, 177, 179, 178, 276, 145, 256, 68, 181, 278, 43, 146, 91, 216, 184, 281, 343, 280, 267, 328, 208, 307, 372, 373, 306, 363, 369, 398, 364, 393, 365, 394, 395, 366, 396, 397, 404, 367, 368, 370, 371, 217, 218, 67, 174, 180, 277, 71, 271, 123, 185, 245, 108, 17, 77, 78, 189, 209, 92, 289, 353, 228, 230, 239, 316, 240, 229, 313, 314, 390, 197, 294, 356, 391, 295, 235, 100, 357, 354, 302, 360, 361, 190, 79, 191, 192, 193, 290, 80, 194, 291, 16, 25, 94, 225, 257, 226, 95, 182, 279, 227, 315, 18, 81, 195, 82, 196, 293, 292, 355, 89, 210, 211, 83, 85, 200, 201, 297, 298, 358, 392, 84, 198, 199, 296, 86, 202, 299, 203, 300, 301, 359, 204, 205, 303, 362, 237, 317, 377, 318, 378, 172, 23, 20, 88, 207, 304, 305, 19, 87, 206, 331, 99, 234, 231, 332, 383, 400, 384, 97, 232, 333, 385, 51, 52, 153, 259, 263, 327, 382, 325, 324, 380, 260, 326, 381, 261, 46, 151, 258, 323, 379, 152, 162, 154, 156, 262, 158, 159, 161, 268, 329, 270, 269, 330, 44, 147, 148, 166, 56, 167, 59, 171, 73, 186, 282, 283, 344, 345, 347, 346, 351, 348, 349, 350, 285, 284, 286, 287, 168, 62, 57, 53, 163, 58, 169, 170, 60, 61, 173] := by kernel_rfl

set_option maxHeartbeats 40000000 in
theorem snapNone_facts : joinedFacts Tryz.prog 9 Tryz.f9 Rows.snapNoneSpec Rows.snapNoneRow = true := by
  unfold joinedFacts
  simp only [Bool.and_eq_true]
  repeat' apply And.intro
  all_goals (try unfold Program.recurses)
  all_goals (try unfold Program.inPlace)
  all_goals (try unfold Program.unfollowed)
  all_goals (try unfold Program.varsNamed)
  all_goals (try rw [snapNone_closure])
  all_goals (as_aux_lemma => kernel_rfl)

set_option maxHeartbeats 40000000 in
theorem snapNone_row : Rows.SnapNoneSaid :=
  OpenClaim.holds_of_wide 9 Tryz.f9 rfl rfl rfl rfl rfl rfl rfl ⟨rfl, rfl, rfl, rfl, rfl⟩ rfl rfl rfl rfl rfl (by as_aux_lemma => kernel_rfl) Tryz.func9 snapNone_facts
    (of_decide_eq_true (by as_aux_lemma => kernel_rfl)) (by unfold Func.isWrapper; first | (rw [if_pos (by decide +kernel)]; kernel_rfl) | (rw [if_neg (by decide +kernel)]; exact ⟨rfl, rfl⟩))
    (fun os started H enc _ => snapNone_lifted os started H enc)
end Go.Proofs.YtjmneomkkcbleaaGreatDoor
