/-
  The facts about the calls that apostille's GateKeys can come to: each by the kernel, from the list of those functions.
-/
import Derived.Test.YtfhmklinieaolaaGreatDoorCards
import Derived.JoinedOf
import Derived.KernelRfl
namespace Go.Proofs.YtfhmklinieaolaaGreatDoor.gateKeysFacts
open Go
def reached : List FuncId := [4, 10, 11, 20, 24, 16, 9, 21, 32, 44, 72, 131, 195, 267, 132, 196, 73, 45, 74, 133, 197, 268, 269, 199, 271, 210, 274, 332, 333, 334, 370, 198, 141, 206, 270, 331, 83, 200, 272, 130, 46, 75, 76, 77, 134, 78, 80, 137, 202, 135, 201, 81, 138, 203, 79, 136, 47, 82, 139, 204, 140, 205, 84, 142, 207, 236, 273, 85, 86, 143, 172, 144, 208, 145, 209, 263, 264, 330, 369, 398, 427, 461, 399, 428, 329, 367, 394, 368, 395, 423, 453, 454, 455, 456, 457, 477, 478, 479, 480, 481, 459, 396, 424, 458, 460, 482, 483, 397, 426, 425, 211, 275, 335, 336, 337, 371, 372, 400, 87, 146, 107, 147, 212, 48, 88, 148, 149, 150, 213, 277, 276, 338, 278, 215, 214, 279, 280, 155, 218, 216, 281, 217, 151, 89, 90, 152, 153, 33, 49, 50, 51, 92, 91, 34, 35, 52, 93, 95, 154, 165, 156, 94, 157, 96, 97, 98, 99, 53, 100, 158, 101, 54, 103, 102, 159, 104, 55, 105, 110, 160, 219, 220, 106, 161, 221, 282, 339, 283, 56, 108, 57, 58, 109, 162, 222, 223, 284, 287, 285, 286, 289, 288, 290, 291, 340, 292, 163, 164, 224, 225, 293, 226, 228, 294, 341, 373, 374, 401, 429, 430, 402, 375, 376, 403, 431, 433, 432, 462, 377, 227, 111, 167, 166, 229, 230, 295, 342, 168, 231, 296, 343, 344, 378, 404, 232, 233, 297, 176, 22, 36, 60, 59, 112, 26, 41, 40, 27, 37, 61, 64, 118, 119, 173, 120, 39, 65, 121, 122, 175, 245, 246, 174, 237, 238, 300, 239, 301, 302, 240, 303, 304, 345, 241, 242, 243, 244, 123, 177, 247, 124, 66, 125, 178, 249, 250, 248, 305, 126, 179, 251, 180, 181, 182, 252, 253, 306, 307, 308, 346, 347, 309, 310, 311, 348, 349, 316, 312, 350, 379, 380, 405, 406, 434, 438, 435, 463, 464, 484, 407, 436, 465, 467, 466, 485, 437, 439, 468, 486, 381, 186, 408, 409, 313, 314, 351, 352, 382, 187, 389, 418, 451, 472, 473, 488, 489, 474, 475, 490, 491, 492, 493, 383, 386, 388, 416, 442, 469, 443, 354, 417, 445, 444, 446, 448, 470, 447, 450, 471, 487, 449, 353, 384, 410, 385, 387, 412, 440, 411, 413, 441, 414, 117, 415, 315, 355, 254, 318, 358, 317, 356, 357, 390, 419, 184, 183, 185, 127, 67, 68, 129, 190, 191, 192, 256, 260, 262, 326, 365, 322, 362, 392, 327, 366, 261, 328, 323, 363, 393, 421, 422, 452, 476, 364, 325, 193, 194, 265, 266, 128, 188, 189, 255, 257, 319, 324, 320, 359, 321, 360, 361, 391, 420, 258, 259, 62, 31, 42, 43, 69, 71, 70, 114, 115, 113, 169, 170, 234, 298, 19, 23, 38, 63, 116, 171, 235, 299, 30, 18, 7, 12, 25, 13, 14, 15, 29, 28]
theorem closure_is : Tryz.prog.closure 4 = reached := by kernel_rfl
theorem inPlace : Rows.gateKeysRow.inPlace = Tryz.prog.inPlace 4 := by unfold Program.inPlace; rw [closure_is]; kernel_rfl
theorem unfollowed_is : Tryz.prog.unfollowed 4 = Rows.gateKeysRow.unfollowed := by unfold Program.unfollowed; rw [closure_is]; kernel_rfl
theorem recurses : Rows.gateKeysRow.recurses = Tryz.prog.recurses 4 := by unfold Program.recurses; rw [unfollowed_is, closure_is]; kernel_rfl
theorem named : Rows.gateKeysRow.named = Tryz.prog.varsNamed 4 := by unfold Program.varsNamed; rw [closure_is]; kernel_rfl
theorem goes_is : Tryz.prog.goes 4 = false := by unfold Program.goes; rw [unfollowed_is, closure_is]; kernel_rfl
theorem found : Tryz.prog.funcNamed Rows.gateKeysRow.func = some 4 := by kernel_rfl
theorem goesBy_entering {c : OpenClaim} {P : Program} {f : FuncId} (hs : c.start = .entering) (hf : P.funcNamed c.func = some f) (hg : P.goes f = false) : false = c.goesBy P := by
  unfold OpenClaim.goesBy Program.goesAt Program.goesFrom
  rw [hf, hs]
  show false = (P.goes f || false)
  rw [hg]
  rfl
theorem goes : false = Rows.gateKeysRow.goesBy Tryz.prog := goesBy_entering rfl found goes_is
end Go.Proofs.YtfhmklinieaolaaGreatDoor.gateKeysFacts
