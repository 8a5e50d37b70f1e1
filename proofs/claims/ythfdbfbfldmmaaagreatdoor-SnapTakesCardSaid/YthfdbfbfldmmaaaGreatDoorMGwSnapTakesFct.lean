/-
  The law arboretumlaw22.SnapTakes holds, whatever it is handed: its text is walked over the contracts of all that it calls; conditions: the row's own (the listed variables are as the program's text lays them).
-/
import Derived.Test.YthfdbfbfldmmaaaGreatDoorChecked
import Derived.Test.YthfdbfbfldmmaaaGreatDoorRows
import Derived.Test.YthfdbfbfldmmaaaGreatDoorTie
import Derived.Test.YthfdbfbfldmmaaaGreatDoorCards
import Derived.ProofKit
import Derived.OpenShut
import Derived.ChangeMaps5
import Derived.LaidMore
import Derived.Lay
import Derived.SevenTiedAt
import Derived.Stop.Joined
set_option linter.unusedVariables false
set_option linter.unusedSimpArgs false
set_option linter.unusedVariables false
set_option linter.unusedSimpArgs false
namespace Go.Proofs.YthfdbfbfldmmaaaGreatDoor
open Go.ChangeShapes Go.WideShapes Go.ChangeAt Go.RowKit
set_option maxHeartbeats 40000000 in
set_option maxRecDepth 100000 in
theorem snapTakes_closure : Tryz.prog.closure 3 = [3, 4, 15, 69, 70, 99, 136, 100, 101, 137, 138, 147, 206, 195, 202, 207, 265, 264, 266, 268, 316, 267, 270, 319, 352, 317, 350, 318, 351, 373, 386, 390, 374, 375, 376, 269, 204, 263, 184, 102, 139, 196, 197, 259, 311, 198, 235, 199, 201, 200, 260, 312, 313, 261, 314, 262, 315, 349, 203, 140, 141, 180, 142, 143, 205, 181, 123, 182, 144, 126, 183, 145, 121, 103, 146, 104, 148, 150, 149, 208, 105, 151, 192, 245, 301, 71, 106, 107, 152, 179, 239, 299, 236, 187, 241, 209, 272, 329, 330, 271, 320, 326, 358, 321, 353, 322, 354, 355, 323, 356, 357, 377, 324, 325, 327, 328, 153, 154, 186, 75, 240, 300, 108, 72, 109, 155, 156, 159, 214, 216, 217, 275, 227, 175, 333, 361, 378, 379, 380, 381, 387, 383, 388, 389, 382, 283, 336, 363, 384, 337, 364, 366, 365, 362, 342, 368, 369, 276, 218, 277, 278, 279, 334, 273, 331, 335, 210, 171, 232, 189, 243, 293, 233, 294, 348, 295, 211, 164, 219, 280, 224, 290, 345, 344, 371, 169, 228, 229, 222, 225, 281, 291, 346, 347, 372, 385, 221, 284, 285, 338, 223, 286, 339, 287, 340, 341, 367, 288, 289, 343, 370, 110, 157, 212, 158, 213, 111, 160, 215, 274, 332, 359, 360, 161, 220, 282, 112, 113, 163, 162, 114, 165, 226, 166, 115, 167, 116, 168, 73, 117, 118, 170, 178, 238, 298, 231, 230, 292, 172, 234, 296, 173, 119, 174, 176, 237, 297, 127, 185, 120, 122, 177, 124, 125, 128, 188, 242, 191, 190, 244, 74, 129, 130, 16, 17, 76, 77, 131, 132, 193, 246, 247, 302, 303, 305, 304, 309, 306, 307, 308, 249, 248, 250, 251, 23, 18, 5, 6, 19, 20, 7, 8, 21, 22, 9, 10, 11, 24, 12, 13, 14, 25, 78, 26, 79, 27, 80, 28, 81, 29, 30, 82, 31, 83, 133, 194, 252, 310, 253, 254, 256, 255, 258, 257, 32, 84, 33, 85, 34, 86, 35, 87, 134, 36, 88, 37, 89, 135, 38, 90, 39, 91, 40, 92, 41, 93, 42, 94, 43, 95, 44, 96, 45, 97, 46, 98, 47, 48, 49, 50, 51, 52, 53, 54, 55, 56, 57, 58, 59, 60, 61, 62, 63, 64, 65, 66, 67, 68] := by kernel_rfl
set_option maxHeartbeats 40000000 in
theorem snapTakes_facts : joinedFacts Tryz.prog 3 Tryz.f3 Rows.snapTakesSpec Rows.snapTakesRow = true := by
  unfold joinedFacts
  simp only [Bool.and_eq_true]
  repeat' apply And.intro
  all_goals (try unfold Program.recurses)
  all_goals (try unfold Program.inPlace)
  all_goals (try unfold Program.unfollowed)
  all_goals (try unfold Program.varsNamed)
  all_goals (try rw [snapTakes_closure])
  all_goals (as_aux_lemma => kernel_rfl)
end Go.Proofs.YthfdbfbfldmmaaaGreatDoor
