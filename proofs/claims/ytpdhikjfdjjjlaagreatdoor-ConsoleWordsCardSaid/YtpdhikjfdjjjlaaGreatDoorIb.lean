/-
  The functions that the law leads to.
-/
import Derived.Test.YtpdhikjfdjjjlaaGreatDoorIa0
import Derived.Test.YtpdhikjfdjjjlaaGreatDoorIa1
import Derived.Test.YtpdhikjfdjjjlaaGreatDoorIa2
import Derived.Test.YtpdhikjfdjjjlaaGreatDoorIa3
namespace Go.Proofs.YtpdhikjfdjjjlaaGreatDoor.consoleWords
open Go
set_option maxRecDepth 100000
theorem map_chunk {α β : Type} {f : α → β} {l : List α} {a n : Nat} {T1 T2 : List β} (h1 : ((l.drop a).take n).map f = T1) (h2 : (l.drop (a + n)).map f = T2) : (l.drop a).map f = T1 ++ T2 := by
  rw [← h1, ← h2, ← List.map_append, ← List.drop_drop, List.take_append_drop]
theorem map_end {α β : Type} {f : α → β} {l : List α} {a : Nat} (h : (l.drop a).length = 0) : (l.drop a).map f = [] := by
  rw [List.length_eq_zero_iff.1 h]; rfl
def ldT : List (List Nat) := ld0 ++ (ld1 ++ (ld2 ++ (ld3 ++ (ld4 ++ (ld5 ++ (ld6 ++ (ld7 ++ [])))))))
def gdT : List (List Nat) := gd0 ++ (gd1 ++ (gd2 ++ (gd3 ++ (gd4 ++ (gd5 ++ (gd6 ++ (gd7 ++ [])))))))
theorem leads : (Tryz.prog.funcs.toList.drop 0).map Tryz.prog.leadsTo = ldT := map_chunk lead0 (map_chunk lead1 (map_chunk lead2 (map_chunk lead3 (map_chunk lead4 (map_chunk lead5 (map_chunk lead6 (map_chunk lead7 (map_end (f := Tryz.prog.leadsTo) (l := Tryz.prog.funcs.toList) (a := 736) (by kernel_rfl)))))))))
theorem globs : (Tryz.prog.funcs.toList.drop 0).map (fun g => g.body.elim [] Code.globalsNamed) = gdT := map_chunk glob0 (map_chunk glob1 (map_chunk glob2 (map_chunk glob3 (map_chunk glob4 (map_chunk glob5 (map_chunk glob6 (map_chunk glob7 (map_end (f := fun g : Func => g.body.elim [] Code.globalsNamed) (l := Tryz.prog.funcs.toList) (a := 736) (by kernel_rfl)))))))))
theorem lead_at (k : Nat) : (Tryz.prog.funcs[k]?).elim [] Tryz.prog.leadsTo = (ldT[k]?).getD [] := by
  rw [← leads, List.drop_zero, List.getElem?_map, Array.getElem?_toList]
  cases Tryz.prog.funcs[k]? <;> rfl
theorem glob_at (k : Nat) : ((Tryz.prog.funcs[k]?).bind (·.body)).elim [] Code.globalsNamed = (gdT[k]?).getD [] := by
  rw [← globs, List.drop_zero, List.getElem?_map, Array.getElem?_toList]
  cases Tryz.prog.funcs[k]? <;> rfl
def cloT (T : List (List Nat)) : Nat → List Nat → List Nat → List Nat
  | 0, _, seen => seen.reverse
  | _ + 1, [], seen => seen.reverse
  | n + 1, f :: todo, seen => if seen.contains f then cloT T n todo seen else cloT T n ((T[f]?).getD [] ++ todo) (f :: seen)
theorem cloT_eq {P : Program} {T : List (List Nat)} (h : ∀ k : Nat, (P.funcs[k]?).elim [] P.leadsTo = (T[k]?).getD []) : ∀ n todo seen, P.closureVia n todo seen = cloT T n todo seen
  | 0, _, _ => by unfold Program.closureVia cloT; rfl
  | _ + 1, [], _ => by unfold Program.closureVia cloT; rfl
  | n + 1, f :: todo, seen => by unfold Program.closureVia cloT; rw [h f, cloT_eq h n, cloT_eq h n]
theorem fuel_eq {P : Program} {T : List (List Nat)} (h : (P.funcs.toList.drop 0).map P.leadsTo = T) : (P.funcs.toList.map fun g => (P.leadsTo g).length + 1) = T.map fun l => l.length + 1 := by
  rw [← h, List.drop_zero, List.map_map]; rfl
def cloL : List Nat := [3, 4, 9, 19, 104, 106, 156, 231, 232, 158, 20, 105, 157, 21, 22, 107, 23, 108, 159, 24, 25, 10, 13, 33, 126, 130, 205, 194, 34, 127, 195, 277, 278, 385, 196, 197, 279, 386, 466, 138, 211, 212, 227, 324, 226, 213, 298, 244, 343, 214, 299, 280, 281, 198, 282, 387, 388, 283, 389, 467, 468, 284, 390, 135, 208, 391, 199, 285, 392, 361, 441, 393, 200, 286, 287, 394, 201, 202, 289, 288, 228, 291, 290, 333, 293, 292, 395, 128, 203, 294, 295, 296, 396, 297, 397, 204, 35, 129, 131, 206, 132, 134, 133, 207, 37, 36, 136, 38, 137, 209, 210, 26, 14, 39, 139, 215, 216, 300, 140, 217, 141, 218, 301, 398, 302, 303, 304, 399, 8, 15, 40, 41, 143, 16, 17, 142, 220, 219, 42, 43, 144, 44, 45, 145, 46, 47, 48, 49, 50, 51, 52, 146, 222, 314, 315, 221, 305, 311, 306, 400, 307, 401, 402, 308, 403, 404, 469, 309, 310, 312, 313, 148, 147, 53, 54, 55, 56, 57, 58, 59, 149, 224, 223, 60, 61, 62, 63, 64, 65, 66, 150, 151, 225, 316, 317, 405, 318, 319, 406, 407, 470, 320, 321, 322, 323, 152, 153, 67, 68, 69, 70, 154, 229, 71, 72, 73, 74, 75, 76, 77, 78, 79, 80, 81, 82, 83, 84, 85, 86, 155, 230, 87, 88, 89, 90, 91, 92, 93, 94, 95, 96, 97, 98, 99, 100, 101, 102, 103, 18, 27, 109, 160, 233, 234, 325, 408, 409, 471, 472, 518, 566, 182, 567, 602, 473, 474, 519, 338, 416, 495, 496, 497, 417, 381, 456, 457, 188, 121, 183, 184, 272, 383, 273, 189, 185, 274, 186, 187, 275, 384, 276, 475, 520, 568, 240, 334, 569, 476, 521, 570, 603, 629, 639, 661, 670, 640, 630, 641, 662, 671, 682, 672, 673, 683, 692, 700, 684, 663, 674, 675, 676, 685, 686, 678, 693, 255, 358, 359, 360, 440, 178, 694, 695, 701, 703, 696, 702, 697, 677, 687, 698, 688, 554, 689, 679, 690, 642, 604, 607, 503, 609, 608, 606, 605, 631, 444, 511, 558, 448, 512, 560, 561, 372, 559, 364, 442, 610, 353, 373, 611, 571, 433, 504, 572, 573, 477, 522, 574, 340, 478, 523, 575, 612, 576, 341, 420, 342, 421, 422, 498, 547, 613, 530, 479, 525, 526, 524, 480, 527, 528, 529, 481, 531, 532, 577, 377, 454, 345, 423, 514, 564, 578, 482, 533, 579, 580, 446, 534, 502, 483, 535, 581, 614, 632, 615, 582, 616, 617, 633, 643, 484, 536, 537, 583, 485, 538, 584, 486, 539, 585, 586, 618, 634, 644, 636, 635, 659, 668, 667, 645, 646, 647, 648, 649, 650, 651, 652, 451, 653, 654, 664, 552, 594, 596, 665, 598, 627, 628, 680, 655, 365, 443, 509, 551, 595, 553, 597, 555, 556, 510, 557, 599, 600, 601, 656, 513, 562, 563, 657, 658, 666, 681, 691, 699, 247, 346, 347, 620, 619, 587, 487, 540, 588, 332, 413, 621, 410, 491, 589, 622, 623, 637, 638, 660, 669, 488, 541, 590, 624, 625, 452, 591, 626, 489, 542, 543, 490, 544, 592, 545, 326, 327, 110, 175, 251, 355, 434, 435, 505, 506, 436, 437, 507, 508, 549, 550, 411, 112, 176, 252, 356, 438, 357, 439, 253, 254, 328, 122, 190, 161, 162, 235, 163, 236, 329, 164, 165, 237, 238, 330, 412, 331, 166, 167, 168, 239, 242, 124, 192, 193, 335, 336, 414, 492, 493, 546, 593, 337, 415, 494, 241, 191, 169, 243, 339, 418, 250, 351, 352, 354, 428, 501, 429, 430, 431, 432, 125, 419, 113, 177, 170, 245, 246, 344, 256, 171, 248, 348, 425, 424, 499, 349, 426, 427, 500, 548, 172, 249, 350, 173, 174, 30, 118, 119, 120, 123, 28, 29, 111, 114, 115, 116, 117, 179, 257, 362, 363, 180, 258, 366, 367, 445, 447, 449, 450, 368, 181, 262, 263, 374, 453, 264, 375, 376, 265, 266, 378, 455, 380, 267, 379, 268, 269, 382, 458, 459, 515, 460, 461, 516, 517, 565, 462, 463, 464, 465, 270, 271, 369, 370, 260, 261, 259, 371, 5, 6, 7, 11, 31, 32, 12]
theorem clo : Tryz.prog.closure 3 = cloL := by
  unfold Program.closure
  rw [fuel_eq leads, cloT_eq lead_at]
  kernel_rfl
end Go.Proofs.YtpdhikjfdjjjlaaGreatDoor.consoleWords
