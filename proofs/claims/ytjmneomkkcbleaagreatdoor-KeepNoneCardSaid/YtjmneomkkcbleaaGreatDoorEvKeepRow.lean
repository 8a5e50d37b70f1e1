/-
  The law arboretumlaw19.KeepNone holds, whatever batch it is handed: its text is walked over what it calls; what it calls is evaluated, in the kernel, by an evaluator that is proved sound for every order and every answer of the tape; conditions: the row's own (the listed variables are as the program's text lays them).
-/
import Derived.Test.YtjmneomkkcbleaaGreatDoorEvKeepRun
import Derived.Carry
import Derived.Test.YtjmneomkkcbleaaGreatDoorTie
import Derived.Test.YtjmneomkkcbleaaGreatDoorCards
import Derived.ProofKit
import Derived.OpenShut
import Derived.ChangeMaps5
import Derived.LaidMore
import Derived.Lay
import Derived.SevenTiedAt
import Derived.Stop.Joined
namespace Go.Proofs.YtjmneomkkcbleaaGreatDoor
open Go.ChangeShapes Go.WideShapes Go.ChangeAt Go.RowKit

theorem own : ownKnob Tryz.prog.godebug = none := by kernel_rfl

set_option maxRecDepth 100000 in
theorem keepNone_lifted (os : Os) (started : os.Started) (H : Type) (enc : TypeId × Value → H) :
    ReturnsInHanded {} Tryz.checked os 6 .any (fun w args => (Rows.keepNoneSpec.pre enc Tryz.prog Tryz.f6 [] false w args ∧ laidMetH Tryz.prog Rows.keepNoneRow.laid w) ∧ sizedMet enc Tryz.prog Tryz.f6 (OpenSpec.ofChange Rows.keepNoneSpec) false w args)
      (Rows.keepNoneSpec.post enc Tryz.prog Tryz.f6 false true false false) := by
  refine returnsInHanded_of_change_and (C := Tryz.checked) (X := fun w _ => laidMetH Tryz.prog Rows.keepNoneRow.laid w) (fun _ _ _ hh h => h.of_heap hh) own started (by kernel_rfl) Tryz.func6
    (ChangeSpec.witness_shaped (enc := enc) (C := Tryz.checked) (os := os) (X := fun w _ => laidMetH Tryz.prog Rows.keepNoneRow.laid w) false (World.laidAll Tryz.prog os Rows.keepNoneRow.laid) #[.agg #[.int .i64 0, .int .i64 0, .int .i64 0, .bool false, .int .i64 0, .slice none 0 0, .int .i64 0, .int .i64 0, .slice none 0 0, .bool false, .int .i64 0]] 8 (World.laidAll_os _ _ _)
      (World.shaped_of_ZipB (by kernel_rfl) (by kernel_rfl)) (by kernel_rfl) (by kernel_rfl) (by kernel_rfl)
      (by rw [MakeChecks.laidMetH_plain _ _ _ (by kernel_rfl)]; exact laidMet_laidAll _ (by kernel_rfl) (by kernel_rfl))) ?_
  intro W base args ds gs before hval0 hW _ _ hL _
  have hval : ∀ (j : Nat) t v, Tryz.f6.params[j]? = some t → args[j]? = some v → Value.okWide Tryz.prog W .any base t v := hval0
  have hW' := hW
  obtain ⟨p, q, hA0, hV, rfl, _, _⟩ := hW
  have hA : DataW.TrodAll enc Tryz.prog W 0 (fun _ => true) true Tryz.f6.params.toList args.toList ds p := hA0
  rw [Tryz.params6] at hA hval
  obtain ⟨v0, d0, rfl, rfl, h0⟩ := trodAll_one hA
  obtain ⟨rfl, rfl⟩ := trodVars_none hV
  have h0k := h0
  obtain ⟨i0, i1, i2, hh, fr, s0, s1, hs, ap, pe, pm, le, ce, lm, cm, rfl, he, hle, hlm⟩ := Ev.open_batch (hval 0 71 v0 rfl rfl) h0
  simp only [List.append_nil] at hW'
  have hlt : ∀ x ∈ p, x.block < W.heap.size := fun x hx => by simpa using hW'.lt x hx
  refine (call_keepNone i0 i1 i2 hh fr s0 s1 hs ap pe pm le ce lm cm W he (by unfold maxLen at hle; omega) (by unfold maxLen at hlm; omega)).mono fun e W' ⟨hret, hw⟩ => ?_
  subst hret
  exact ⟨_, rfl, _, _, _, [], p, [], hW', trodAll_mk1 (shut_bool Tryz.underlying4 true), trodAll_mk1 (Below.trod (by kernel_rfl) (by kernel_rfl) (of_decide_eq_true (by kernel_rfl)) h0k hw hlt), rfl, hw.frame _, fun h => by cases h⟩

set_option maxHeartbeats 40000000 in
set_option maxRecDepth 100000 in
theorem keepNone_closure : Tryz.prog.closure 6 = [6, 32, 105, 164, 106, 33, 107, 24, 90, 12, 212, 213, 248, 264, 222, 311, 374, 375, 272, 334, 312, 288, 352, 376, 399, 187, 223, 188, 214, 308, 145, 256, 68, 181, 278, 215, 309, 91, 141, 216, 184, 281, 343, 280, 267, 328, 208, 307, 372, 373, 306, 363, 369, 398, 364, 393, 365, 394, 395, 366, 396, 397, 404, 367, 368, 370, 371, 217, 178, 276, 218, 67, 174, 180, 277, 16, 25, 92, 94, 225, 257, 226, 93, 219, 220, 221, 310, 224, 95, 182, 279, 227, 71, 35, 121, 244, 108, 185, 17, 77, 78, 189, 209, 175, 176, 273, 238, 274, 336, 335, 337, 339, 386, 338, 341, 389, 403, 387, 401, 388, 402, 405, 409, 410, 406, 407, 408, 340, 275, 342, 289, 353, 228, 230, 239, 316, 240, 229, 313, 314, 390, 197, 294, 356, 391, 295, 235, 100, 357, 354, 302, 360, 361, 190, 79, 191, 192, 193, 290, 80, 194, 291, 122, 123, 245, 315, 18, 81, 195, 82, 196, 293, 292, 355, 89, 210, 211, 83, 85, 200, 201, 297, 298, 358, 392, 84, 198, 199, 296, 86, 202, 299, 203, 300, 301, 359, 204, 205, 303, 362, 124, 125, 99, 234, 231, 126, 127, 246, 128, 129, 109, 36, 130, 133, 233, 132, 73, 186, 282, 283, 344, 345, 347, 346, 351, 348, 349, 350, 285, 284, 286, 287, 97, 232, 19, 87, 206, 131, 134, 34, 110, 111, 136, 112, 113, 114, 115, 116, 117, 118, 241, 319, 119, 120, 242, 243, 320] := by kernel_rfl

set_option maxHeartbeats 40000000 in
theorem keepNone_facts : joinedFacts Tryz.prog 6 Tryz.f6 Rows.keepNoneSpec Rows.keepNoneRow = true := by
  unfold joinedFacts
  simp only [Bool.and_eq_true]
  repeat' apply And.intro
  all_goals (try unfold Program.recurses)
  all_goals (try unfold Program.inPlace)
  all_goals (try unfold Program.unfollowed)
  all_goals (try unfold Program.varsNamed)
  all_goals (try rw [keepNone_closure])
  all_goals (as_aux_lemma => kernel_rfl)

set_option maxHeartbeats 40000000 in
theorem keepNone_row : Rows.KeepNoneSaid :=
  OpenClaim.holds_of_wide 6 Tryz.f6 rfl rfl rfl rfl rfl rfl rfl ⟨rfl, rfl, rfl, rfl, rfl⟩ rfl rfl rfl rfl rfl (by as_aux_lemma => kernel_rfl) Tryz.func6 keepNone_facts
    (of_decide_eq_true (by as_aux_lemma => kernel_rfl)) (by unfold Func.isWrapper; first | (rw [if_pos (by decide +kernel)]; kernel_rfl) | (rw [if_neg (by decide +kernel)]; exact ⟨rfl, rfl⟩))
    (fun os started H enc _ => keepNone_lifted os started H enc)
end Go.Proofs.YtjmneomkkcbleaaGreatDoor
