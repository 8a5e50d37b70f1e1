/-
  Closed facts of the row of arboretumlaw28.NodeNone, each asked of the kernel by itself (part 2).
-/
import Derived.Test.YtdopajkecfomdaaGreatDoorProg
import Derived.Test.YtdopajkecfomdaaGreatDoorRows
import Derived.ProofKit
import Derived.JoinedOf
import Derived.KernelRfl
namespace Go.Proofs.YtdopajkecfomdaaGreatDoor

set_option maxHeartbeats 40000000 in
set_option maxRecDepth 100000 in
theorem nodeNone_closure : Tryz.prog.closure 4 = [4, 16, 46, 105, 17, 50, 133, 237, 111, 134, 233, 262, 234, 385, 192, 122, 386, 472, 471, 473, 475, 515, 474, 477, 518, 531, 516, 529, 517, 530, 537, 543, 544, 538, 539, 540, 476, 218, 367, 409, 135, 43, 116, 117, 244, 390, 118, 245, 119, 121, 120, 246, 391, 392, 247, 393, 248, 394, 480, 123, 264, 107, 238, 265, 266, 410, 411, 267, 412, 268, 269, 413, 270, 263, 136, 271, 137, 272, 273, 112, 241, 109, 235, 236, 387, 478, 51, 138, 212, 41, 113, 242, 388, 479, 324, 422, 495, 101, 232, 383, 384, 231, 374, 380, 470, 375, 465, 376, 466, 467, 377, 468, 469, 514, 378, 379, 381, 382, 114, 115, 243, 158, 389, 395, 274, 275, 139, 276, 277, 140, 145, 298, 7, 27, 28, 82, 102, 42, 213, 364, 187, 194, 351, 342, 350, 188, 340, 341, 348, 90, 219, 368, 463, 220, 329, 174, 327, 365, 227, 371, 372, 83, 29, 84, 85, 86, 214, 30, 87, 215, 278, 279, 182, 280, 281, 282, 283, 284, 285, 286, 184, 335, 453, 454, 505, 506, 508, 507, 512, 509, 510, 511, 456, 455, 457, 458, 414, 349, 415, 491, 287, 155, 301, 302, 429, 146, 53, 54, 144, 164, 147, 148, 299, 6, 15, 44, 124, 249, 125, 45, 126, 250, 127, 426, 8, 31, 88, 32, 89, 217, 216, 366, 39, 103, 104, 33, 35, 93, 94, 222, 223, 369, 464, 34, 91, 92, 221, 36, 95, 224, 96, 225, 226, 370, 97, 98, 228, 373, 149, 150, 300, 428, 427, 151, 152, 65, 153, 154, 55, 52, 141, 288, 142, 289, 290, 416, 492, 520, 291, 143, 292, 417, 421, 325, 444, 493, 431, 498, 418, 494, 521, 419, 293, 294, 420, 295, 296, 297, 423, 496, 425, 424, 497, 56, 156, 157, 167, 303, 57, 159, 160, 161, 305, 304, 309, 432, 499, 58, 59, 128, 251, 396, 481, 397, 407, 490, 482, 519, 398, 483, 131, 259, 399, 408, 261, 400, 484, 401, 485, 260, 402, 403, 486, 252, 253, 405, 257, 130, 404, 487, 488, 406, 489, 254, 255, 22, 60, 26, 61, 74, 172, 313, 433, 165, 318, 356, 316, 317, 435, 338, 162, 306, 430, 185, 336, 163, 307, 459, 337, 169, 311, 312, 171, 314, 434, 315, 196, 173, 66, 67, 175, 319, 320, 436, 183, 500, 13, 10, 38, 100, 229, 230, 9, 37, 99, 501, 437, 438, 502, 189, 343, 460, 513, 503, 70, 522, 532, 541, 533, 534, 504, 528, 535, 524, 536, 542, 523, 525, 526, 527, 322, 442, 360, 443, 321, 439, 441, 440, 328, 176, 62, 323, 209, 363, 326, 445, 208, 447, 446, 211, 72, 362, 177, 178, 179, 331, 191, 347, 461, 330, 448, 180, 333, 451, 332, 450, 449, 19, 69, 68, 181, 334, 452, 47, 129, 256, 258, 23, 75, 186, 339, 76, 190, 344, 310, 345, 346, 64, 168, 308, 170, 77, 193, 78, 195, 197, 352, 198, 199, 200, 354, 353, 462, 355, 201, 79, 202, 357, 203, 204, 205, 358, 359, 206, 361, 207, 80, 210, 48, 132, 49, 24, 18, 63, 166, 20, 71, 21, 73, 25, 81] := by kernel_rfl

set_option maxHeartbeats 40000000 in
theorem nodeNone_inPlace : (Rows.nodeNoneRow.inPlace == Tryz.prog.inPlace 4) = true := by
  unfold Program.inPlace
  rw [nodeNone_closure]
  as_aux_lemma => kernel_rfl

set_option maxHeartbeats 40000000 in
theorem nodeNone_unfollowed : (Rows.nodeNoneRow.unfollowed == Tryz.prog.unfollowed 4) = true := by
  unfold Program.unfollowed
  rw [nodeNone_closure]
  as_aux_lemma => kernel_rfl
end Go.Proofs.YtdopajkecfomdaaGreatDoor

namespace Go.Proofs.YtdopajkecfomdaaGreatDoor

set_option maxHeartbeats 40000000 in
theorem nodeNone_laidOut : laidOutB Tryz.prog = true := by as_aux_lemma => kernel_rfl
set_option maxHeartbeats 40000000 in
theorem nodeNone_mapsRowed : mapsRowed Tryz.prog = true := by as_aux_lemma => kernel_rfl
set_option maxHeartbeats 40000000 in
theorem nodeNone_stops : (Tryz.prog.stops == []) = true := by as_aux_lemma => kernel_rfl
set_option maxHeartbeats 40000000 in
theorem nodeNone_stopKnobs : (Tryz.prog.stopKnobs == []) = true := by as_aux_lemma => kernel_rfl
end Go.Proofs.YtdopajkecfomdaaGreatDoor

namespace Go.Proofs.YtdopajkecfomdaaGreatDoor

set_option maxHeartbeats 40000000 in
theorem nodeNone_recurses : (Rows.nodeNoneRow.recurses == Tryz.prog.recurses 4) = true := by
  have h := nodeNone_unfollowed
  rw [beq_iff_eq] at h
  unfold Program.recurses
  rw [← h]
  rfl

set_option maxHeartbeats 40000000 in
theorem nodeNone_named : (Rows.nodeNoneRow.named == Tryz.prog.varsNamed 4) = true := by
  unfold Program.varsNamed
  rw [nodeNone_closure]
  as_aux_lemma => kernel_rfl
end Go.Proofs.YtdopajkecfomdaaGreatDoor
