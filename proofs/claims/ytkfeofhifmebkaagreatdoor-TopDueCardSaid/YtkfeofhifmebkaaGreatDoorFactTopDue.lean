/- Closed facts of the row of TopDue, in pieces. -/
import Derived.Test.YtkfeofhifmebkaaGreatDoorCards
import Derived.Test.YtkfeofhifmebkaaGreatDoorLaidTop
import Derived.JoinedCond
import Derived.SevenTiedAt
set_option maxRecDepth 100000
namespace Go.Proofs.YtkfeofhifmebkaaGreatDoor.topDue
open Go
def reached : List FuncId := [5, 13, 35, 59, 88, 137, 187, 138, 188, 89, 90, 139, 189, 91, 60, 61, 62, 14, 24, 10, 42, 65, 97, 98, 99, 100, 66, 101, 102, 141, 190, 142, 191, 259, 328, 345, 415, 399, 448, 502, 501, 72, 123, 124, 400, 215, 171, 238, 459, 514, 222, 223, 329, 401, 460, 461, 406, 462, 260, 164, 224, 300, 379, 447, 500, 463, 330, 403, 402, 332, 331, 404, 405, 192, 261, 193, 262, 125, 175, 240, 263, 127, 201, 264, 333, 334, 407, 305, 382, 450, 449, 503, 549, 277, 353, 384, 335, 408, 121, 265, 336, 409, 339, 266, 298, 337, 410, 267, 338, 411, 342, 268, 340, 341, 412, 464, 515, 516, 465, 348, 420, 471, 470, 528, 344, 413, 349, 421, 472, 173, 473, 529, 565, 351, 239, 414, 174, 352, 269, 343, 194, 270, 67, 43, 118, 81, 144, 145, 143, 195, 103, 30, 76, 146, 196, 271, 272, 346, 416, 466, 467, 517, 518, 468, 519, 347, 418, 419, 327, 417, 186, 258, 242, 469, 520, 521, 562, 522, 323, 324, 523, 563, 564, 581, 524, 525, 526, 527, 197, 273, 350, 274, 51, 73, 74, 70, 122, 172, 75, 77, 126, 78, 79, 128, 147, 158, 218, 198, 275, 276, 199, 200, 202, 278, 203, 160, 159, 154, 211, 63, 92, 93, 94, 96, 140, 95, 212, 213, 294, 130, 180, 181, 246, 320, 321, 295, 377, 214, 216, 296, 297, 378, 446, 219, 220, 204, 112, 161, 162, 221, 279, 148, 205, 280, 281, 149, 206, 282, 354, 355, 422, 423, 474, 478, 530, 479, 357, 356, 358, 359, 424, 475, 531, 476, 532, 566, 360, 361, 425, 477, 534, 533, 535, 426, 427, 428, 480, 207, 284, 235, 317, 316, 394, 363, 429, 307, 283, 362, 285, 364, 234, 314, 315, 306, 383, 228, 167, 229, 230, 308, 309, 386, 385, 310, 388, 452, 451, 504, 550, 551, 577, 552, 553, 578, 579, 585, 554, 555, 556, 557, 453, 454, 387, 311, 389, 455, 390, 304, 380, 381, 231, 312, 392, 391, 456, 313, 393, 168, 232, 233, 365, 430, 481, 431, 482, 536, 567, 119, 537, 569, 108, 68, 120, 568, 538, 570, 483, 433, 432, 484, 539, 366, 434, 485, 435, 368, 369, 436, 486, 445, 487, 540, 571, 375, 52, 437, 488, 438, 370, 439, 440, 489, 441, 490, 491, 541, 572, 573, 492, 542, 574, 582, 586, 583, 493, 543, 442, 494, 495, 544, 443, 496, 444, 497, 545, 373, 498, 499, 546, 547, 575, 548, 576, 584, 587, 588, 367, 286, 371, 208, 209, 287, 288, 289, 113, 163, 290, 372, 291, 292, 374, 48, 376, 293, 150, 105, 152, 104, 151, 106, 107, 109, 153, 210, 155, 110, 156, 157, 217, 299, 111, 115, 114, 116, 165, 117, 166, 225, 301, 302, 303, 226, 227, 169, 170, 236, 237, 318, 395, 396, 457, 397, 458, 505, 511, 561, 506, 558, 507, 508, 559, 560, 580, 509, 510, 512, 513, 21, 16, 15, 19, 17, 18, 36, 64, 20, 22, 37, 23, 38, 39, 40, 41, 11, 32, 54, 53, 80, 25, 12, 9, 29, 46, 47, 71, 69, 49, 28, 45, 31, 50, 33, 55, 82, 129, 176, 177, 241, 243, 178, 179, 244, 245, 319, 83, 84, 131, 182, 85, 132, 183, 247, 184, 248, 133, 134, 34, 56, 57, 58, 87, 136, 86, 135, 185, 249, 255, 250, 322, 251, 252, 325, 326, 398, 253, 254, 256, 257]
theorem fuel : (Tryz.prog.funcs.toList.map fun g => (Tryz.prog.leadsTo g).length + 1).sum = 1729 := by kernel_rfl
theorem closureVia : Tryz.prog.closureVia 1730 [5] [] = reached := by kernel_rfl
theorem closure : Tryz.prog.closure 5 = reached := by
  unfold Program.closure
  rw [fuel]
  exact closureVia
theorem inPlace : (Rows.topDueRow.inPlace == Tryz.prog.inPlace 5) = true := by
  unfold Program.inPlace
  rw [closure]
  kernel_rfl
theorem unfollowed : Tryz.prog.unfollowed 5 = true := by
  unfold Program.unfollowed
  rw [closure]
  kernel_rfl
theorem recurses : Tryz.prog.recurses 5 = true := by
  unfold Program.recurses
  rw [unfollowed]
  rfl
theorem varsNamed : (Rows.topDueRow.named == Tryz.prog.varsNamed 5) = true := by
  unfold Program.varsNamed
  rw [closure]
  kernel_rfl
theorem plainKeys : (Rows.topDueRow.plainKeys == Tryz.prog.plainKeys) = true := by kernel_rfl
theorem stopsHeard : Tryz.prog.stopsHeard = true := by kernel_rfl
theorem mayEnter : Tryz.prog.mayEnter = true := by kernel_rfl
theorem rowed : mapsRowed Tryz.prog = true := by kernel_rfl
theorem looks : Tryz.prog.looks [] = false := by kernel_rfl
theorem funcsGo : Tryz.prog.funcs.any Func.goes = false := by kernel_rfl
theorem fnNamed : Tryz.prog.funcNamed "detent/detenttop.TopDue" = some 5 := by kernel_rfl
end Go.Proofs.YtkfeofhifmebkaaGreatDoor.topDue
