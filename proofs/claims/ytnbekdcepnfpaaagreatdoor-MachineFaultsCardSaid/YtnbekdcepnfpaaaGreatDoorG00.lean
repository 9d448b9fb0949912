/- The evaluator of this claim's family: a denotation of the translated code, as a proposition, that the tactic cbv computes; and its soundness. -/
import Derived.Test.YtnbekdcepnfpaaaGreatDoorProg
import Derived.WalkKit
set_option linter.unusedVariables false
set_option linter.unusedSimpArgs false
noncomputable section
namespace Go.E
open Go

def PP : Program := Go.Proofs.Tryz.prog

/-! ### What is known of the types -/
inductive TK where
  | int (k : IntKind) | bool | str | flt | ptr (e : Nat) | slice (e esz eb : Nat) | arr (n e esz : Nat)
  | struct (fs : List (Nat × Nat × Nat)) | map (k e : Nat) | iface | func | other
structure TE where
  k : TK
  size : Nat
  zero : Option (List Value)
def te0 : TE := { k := .other, size := 1, zero := none }
def te1 : TE := { k := .func, size := 1, zero := some [.nilFunc] }
def te2 : TE := { k := .int .i64, size := 1, zero := some [.int .i64 0] }
def te4 : TE := { k := .bool, size := 1, zero := some [.bool false] }
def te5 : TE := { k := .int .u8, size := 1, zero := some [.int .u8 0] }
def te7 : TE := { k := .struct [(0, 1, 2), (1, 1, 3), (2, 1, 4), (3, 1, 6)], size := 4, zero := some [.int .i64 0, .int .i64 0, .bool false, .int .u8 0] }
def te9 : TE := { k := .str, size := 1, zero := some [.string ⟨#[]⟩] }
def te12 : TE := { k := .int .u64, size := 1, zero := some [.int .u64 0] }
def te13 : TE := { k := .struct [(0, 1, 9), (1, 1, 12)], size := 2, zero := some [.string ⟨#[]⟩, .int .u64 0] }
def te15 : TE := { k := .ptr 437, size := 1, zero := some [.pointer none] }
def te16 : TE := { k := .ptr 440, size := 1, zero := some [.pointer none] }
def te17 : TE := { k := .ptr 448, size := 1, zero := some [.pointer none] }
def te18 : TE := { k := .struct [(0, 1, 17)], size := 1, zero := some [.pointer none] }
def te20 : TE := { k := .iface, size := 1, zero := some [.nilIface] }
def te21 : TE := { k := .int .i32, size := 1, zero := some [.int .i32 0] }
def te22 : TE := { k := .flt, size := 1, zero := some [.float .f64 0] }
def te23 : TE := { k := .struct [(0, 1, 3), (1, 1, 3), (2, 1, 22), (3, 1, 22)], size := 4, zero := some [.int .i64 0, .int .i64 0, .float .f64 0, .float .f64 0] }
def te26 : TE := { k := .ptr 45, size := 1, zero := some [.pointer none] }
def te28 : TE := { k := .slice 34 1 24, size := 1, zero := some [.slice none 0 0] }
def te29 : TE := { k := .struct [(0, 1, 3), (1, 1, 28)], size := 2, zero := some [.int .i64 0, .slice none 0 0] }
def te32 : TE := { k := .struct [(0, 1, 3), (1, 1, 3), (2, 1, 3), (3, 1, 3)], size := 4, zero := some [.int .i64 0, .int .i64 0, .int .i64 0, .int .i64 0] }
def te34 : TE := { k := .slice 33 4 32, size := 1, zero := some [.slice none 0 0] }
def te35 : TE := { k := .ptr 114, size := 1, zero := some [.pointer none] }
def te36 : TE := { k := .ptr 85, size := 1, zero := some [.pointer none] }
def te37 : TE := { k := .slice 3 1 8, size := 1, zero := some [.slice none 0 0] }
def te38 : TE := { k := .slice 63 3 40, size := 1, zero := some [.slice none 0 0] }
def te39 : TE := { k := .slice 73 3 40, size := 1, zero := some [.slice none 0 0] }
def te40 : TE := { k := .struct [(0, 1, 3), (1, 1, 3), (2, 1, 2), (3, 1, 37), (4, 1, 38), (5, 1, 39), (6, 1, 3), (7, 1, 3), (8, 1, 3)], size := 9, zero := some [.int .i64 0, .int .i64 0, .int .i64 0, .slice none 0 0, .slice none 0 0, .slice none 0 0, .int .i64 0, .int .i64 0, .int .i64 0] }
def te42 : TE := { k := .struct [(0, 1, 3), (1, 1, 3), (2, 1, 4), (3, 1, 3)], size := 4, zero := some [.int .i64 0, .int .i64 0, .bool false, .int .i64 0] }
def te44 : TE := { k := .struct [(0, 1, 35), (1, 1, 36), (2, 4, 24), (6, 1, 37), (7, 1, 4), (8, 9, 41), (17, 1, 3), (18, 4, 43)], size := 22, zero := some [.pointer none, .pointer none, .int .i64 0, .int .i64 0, .float .f64 0, .float .f64 0, .slice none 0 0, .bool false, .int .i64 0, .int .i64 0, .int .i64 0, .slice none 0 0, .slice none 0 0, .slice none 0 0, .int .i64 0, .int .i64 0, .int .i64 0, .int .i64 0, .int .i64 0, .int .i64 0, .bool false, .int .i64 0] }
def te52 : TE := { k := .struct [(0, 1, 3), (1, 1, 3), (2, 1, 3), (3, 1, 3), (4, 1, 3), (5, 1, 4)], size := 6, zero := some [.int .i64 0, .int .i64 0, .int .i64 0, .int .i64 0, .int .i64 0, .bool false] }
def te57 : TE := { k := .struct [(0, 1, 3), (1, 1, 3), (2, 1, 3)], size := 3, zero := some [.int .i64 0, .int .i64 0, .int .i64 0] }
def te62 : TE := { k := .struct [(0, 1, 3), (1, 1, 3), (2, 1, 37)], size := 3, zero := some [.int .i64 0, .int .i64 0, .slice none 0 0] }
def te65 : TE := { k := .slice 43 4 32, size := 1, zero := some [.slice none 0 0] }
def te72 : TE := { k := .struct [(0, 1, 3), (1, 1, 37), (2, 1, 4)], size := 3, zero := some [.int .i64 0, .slice none 0 0, .bool false] }
def te76 : TE := { k := .slice 135 1 8, size := 1, zero := some [.slice none 0 0] }
def te77 : TE := { k := .slice 37 1 24, size := 1, zero := some [.slice none 0 0] }
def te78 : TE := { k := .slice 244 2 16, size := 1, zero := some [.slice none 0 0] }
def te79 : TE := { k := .struct [(0, 1, 78)], size := 1, zero := some [.slice none 0 0] }
def te81 : TE := { k := .arr 32 37 1, size := 32, zero := some [.slice none 0 0, .slice none 0 0, .slice none 0 0, .slice none 0 0, .slice none 0 0, .slice none 0 0, .slice none 0 0, .slice none 0 0, .slice none 0 0, .slice none 0 0, .slice none 0 0, .slice none 0 0, .slice none 0 0, .slice none 0 0, .slice none 0 0, .slice none 0 0, .slice none 0 0, .slice none 0 0, .slice none 0 0, .slice none 0 0, .slice none 0 0, .slice none 0 0, .slice none 0 0, .slice none 0 0, .slice none 0 0, .slice none 0 0, .slice none 0 0, .slice none 0 0, .slice none 0 0, .slice none 0 0, .slice none 0 0, .slice none 0 0] }
def te82 : TE := { k := .struct [(0, 32, 81)], size := 32, zero := some [.slice none 0 0, .slice none 0 0, .slice none 0 0, .slice none 0 0, .slice none 0 0, .slice none 0 0, .slice none 0 0, .slice none 0 0, .slice none 0 0, .slice none 0 0, .slice none 0 0, .slice none 0 0, .slice none 0 0, .slice none 0 0, .slice none 0 0, .slice none 0 0, .slice none 0 0, .slice none 0 0, .slice none 0 0, .slice none 0 0, .slice none 0 0, .slice none 0 0, .slice none 0 0, .slice none 0 0, .slice none 0 0, .slice none 0 0, .slice none 0 0, .slice none 0 0, .slice none 0 0, .slice none 0 0, .slice none 0 0, .slice none 0 0] }
def te84 : TE := { k := .struct [(0, 2, 30), (2, 1, 76), (3, 1, 37), (4, 1, 77), (5, 1, 80), (6, 32, 83), (38, 1, 2)], size := 39, zero := some [.int .i64 0, .slice none 0 0, .slice none 0 0, .slice none 0 0, .slice none 0 0, .slice none 0 0, .slice none 0 0, .slice none 0 0, .slice none 0 0, .slice none 0 0, .slice none 0 0, .slice none 0 0, .slice none 0 0, .slice none 0 0, .slice none 0 0, .slice none 0 0, .slice none 0 0, .slice none 0 0, .slice none 0 0, .slice none 0 0, .slice none 0 0, .slice none 0 0, .slice none 0 0, .slice none 0 0, .slice none 0 0, .slice none 0 0, .slice none 0 0, .slice none 0 0, .slice none 0 0, .slice none 0 0, .slice none 0 0, .slice none 0 0, .slice none 0 0, .slice none 0 0, .slice none 0 0, .slice none 0 0, .slice none 0 0, .slice none 0 0, .int .i64 0] }
def te88 : TE := { k := .slice 22 1 8, size := 1, zero := some [.slice none 0 0] }
def te89 : TE := { k := .struct [(0, 1, 2), (1, 1, 2), (2, 1, 2)], size := 3, zero := some [.int .i64 0, .int .i64 0, .int .i64 0] }
def te97 : TE := { k := .slice 5 1 1, size := 1, zero := some [.slice none 0 0] }
def te99 : TE := { k := .ptr 172, size := 1, zero := some [.pointer none] }
def te101 : TE := { k := .ptr 197, size := 1, zero := some [.pointer none] }
def te102 : TE := { k := .ptr 181, size := 1, zero := some [.pointer none] }
def te103 : TE := { k := .slice 118 1 8, size := 1, zero := some [.slice none 0 0] }
def te104 : TE := { k := .slice 124 1 8, size := 1, zero := some [.slice none 0 0] }
def te105 : TE := { k := .ptr 193, size := 1, zero := some [.pointer none] }
def te106 : TE := { k := .ptr 185, size := 1, zero := some [.pointer none] }
def te107 : TE := { k := .ptr 238, size := 1, zero := some [.pointer none] }
def te108 : TE := { k := .ptr 189, size := 1, zero := some [.pointer none] }
def te109 : TE := { k := .ptr 209, size := 1, zero := some [.pointer none] }
def te110 : TE := { k := .ptr 213, size := 1, zero := some [.pointer none] }
def te111 : TE := { k := .ptr 344, size := 1, zero := some [.pointer none] }
def te112 : TE := { k := .slice 53 6 48, size := 1, zero := some [.slice none 0 0] }
def te113 : TE := { k := .struct [(0, 2, 30), (2, 1, 3), (3, 1, 3), (4, 1, 4), (5, 1, 2), (6, 1, 101), (7, 1, 102), (8, 1, 103), (9, 1, 104), (10, 1, 105), (11, 1, 106), (12, 1, 107), (13, 1, 37), (14, 1, 2), (15, 1, 108), (16, 1, 109), (17, 1, 110), (18, 1, 111), (19, 3, 90), (22, 1, 3), (23, 1, 37), (24, 1, 112), (25, 1, 37), (26, 1, 3), (27, 1, 4)], size := 28, zero := some [.int .i64 0, .slice none 0 0, .int .i64 0, .int .i64 0, .bool false, .int .i64 0, .pointer none, .pointer none, .slice none 0 0, .slice none 0 0, .pointer none, .pointer none, .pointer none, .slice none 0 0, .int .i64 0, .pointer none, .pointer none, .pointer none, .pointer none, .int .i64 0, .int .i64 0, .int .i64 0, .int .i64 0, .slice none 0 0, .slice none 0 0, .slice none 0 0, .int .i64 0, .bool false] }
def te118 : TE := { k := .ptr 121, size := 1, zero := some [.pointer none] }
def te119 : TE := { k := .arr 16 3 1, size := 16, zero := some [.int .i64 0, .int .i64 0, .int .i64 0, .int .i64 0, .int .i64 0, .int .i64 0, .int .i64 0, .int .i64 0, .int .i64 0, .int .i64 0, .int .i64 0, .int .i64 0, .int .i64 0, .int .i64 0, .int .i64 0, .int .i64 0] }
def te120 : TE := { k := .struct [(0, 1, 3), (1, 1, 3), (2, 1, 3), (3, 16, 119), (19, 1, 3), (20, 1, 3)], size := 21, zero := some [.int .i64 0, .int .i64 0, .int .i64 0, .int .i64 0, .int .i64 0, .int .i64 0, .int .i64 0, .int .i64 0, .int .i64 0, .int .i64 0, .int .i64 0, .int .i64 0, .int .i64 0, .int .i64 0, .int .i64 0, .int .i64 0, .int .i64 0, .int .i64 0, .int .i64 0, .int .i64 0, .int .i64 0] }
def te124 : TE := { k := .ptr 128, size := 1, zero := some [.pointer none] }
def te125 : TE := { k := .ptr 381, size := 1, zero := some [.pointer none] }
def te126 : TE := { k := .ptr 218, size := 1, zero := some [.pointer none] }
def te127 : TE := { k := .struct [(0, 1, 3), (1, 1, 3), (2, 1, 3), (3, 1, 3), (4, 1, 3), (5, 1, 125), (6, 1, 126), (7, 1, 4), (8, 1, 3), (9, 1, 2), (10, 1, 2)], size := 11, zero := some [.int .i64 0, .int .i64 0, .int .i64 0, .int .i64 0, .int .i64 0, .pointer none, .pointer none, .bool false, .int .i64 0, .int .i64 0, .int .i64 0] }
def te131 : TE := { k := .slice 4 1 1, size := 1, zero := some [.slice none 0 0] }
def te133 : TE := { k := .struct [(0, 1, 3), (1, 1, 3), (2, 1, 3), (3, 1, 3), (4, 1, 37)], size := 5, zero := some [.int .i64 0, .int .i64 0, .int .i64 0, .int .i64 0, .slice none 0 0] }
def te135 : TE := { k := .ptr 134, size := 1, zero := some [.pointer none] }
def te167 : TE := { k := .ptr 266, size := 1, zero := some [.pointer none] }
def te168 : TE := { k := .map 3 173, size := 1, zero := some [.map none] }
def te169 : TE := { k := .map 3 3, size := 1, zero := some [.map none] }
def te170 : TE := { k := .map 3 37, size := 1, zero := some [.map none] }
def te171 : TE := { k := .struct [(0, 1, 167), (1, 1, 168), (2, 1, 169), (3, 1, 170), (4, 1, 3)], size := 5, zero := some [.pointer none, .map none, .map none, .map none, .int .i64 0] }
def te173 : TE := { k := .ptr 263, size := 1, zero := some [.pointer none] }
def te174 : TE := { k := .slice 177 2 16, size := 1, zero := some [.slice none 0 0] }
def te176 : TE := { k := .struct [(0, 1, 3), (1, 1, 3)], size := 2, zero := some [.int .i64 0, .int .i64 0] }
def te179 : TE := { k := .arr 6 3 1, size := 6, zero := some [.int .i64 0, .int .i64 0, .int .i64 0, .int .i64 0, .int .i64 0, .int .i64 0] }
def te180 : TE := { k := .struct [(0, 1, 37), (1, 6, 179)], size := 7, zero := some [.slice none 0 0, .int .i64 0, .int .i64 0, .int .i64 0, .int .i64 0, .int .i64 0, .int .i64 0] }
def te182 : TE := { k := .slice 246 3 24, size := 1, zero := some [.slice none 0 0] }
def te184 : TE := { k := .struct [(0, 1, 183), (1, 1, 3)], size := 2, zero := some [.slice none 0 0, .int .i64 0] }
def te188 : TE := { k := .struct [(0, 1, 3), (1, 1, 3), (2, 1, 131), (3, 1, 3), (4, 1, 3)], size := 5, zero := some [.int .i64 0, .int .i64 0, .slice none 0 0, .int .i64 0, .int .i64 0] }
def te190 : TE := { k := .slice 194 1 8, size := 1, zero := some [.slice none 0 0] }
def te191 : TE := { k := .ptr 280, size := 1, zero := some [.pointer none] }
def te192 : TE := { k := .struct [(0, 1, 190), (1, 1, 191)], size := 2, zero := some [.slice none 0 0, .pointer none] }
def te194 : TE := { k := .ptr 276, size := 1, zero := some [.pointer none] }
def te195 : TE := { k := .ptr 293, size := 1, zero := some [.pointer none] }
def te196 : TE := { k := .struct [(0, 1, 99), (1, 1, 195), (2, 1, 77)], size := 3, zero := some [.pointer none, .pointer none, .slice none 0 0] }
def te206 : TE := { k := .slice 281 1 8, size := 1, zero := some [.slice none 0 0] }
def te207 : TE := { k := .slice 210 1 8, size := 1, zero := some [.slice none 0 0] }
def te208 : TE := { k := .struct [(0, 1, 206), (1, 1, 207), (2, 1, 207)], size := 3, zero := some [.slice none 0 0, .slice none 0 0, .slice none 0 0] }
def te210 : TE := { k := .ptr 287, size := 1, zero := some [.pointer none] }
def te211 : TE := { k := .slice 298 3 24, size := 1, zero := some [.slice none 0 0] }
def te212 : TE := { k := .struct [(0, 1, 211)], size := 1, zero := some [.slice none 0 0] }
def te216 : TE := { k := .arr 16 215 2, size := 32, zero := some [.int .i64 0, .int .i64 0, .int .i64 0, .int .i64 0, .int .i64 0, .int .i64 0, .int .i64 0, .int .i64 0, .int .i64 0, .int .i64 0, .int .i64 0, .int .i64 0, .int .i64 0, .int .i64 0, .int .i64 0, .int .i64 0, .int .i64 0, .int .i64 0, .int .i64 0, .int .i64 0, .int .i64 0, .int .i64 0, .int .i64 0, .int .i64 0, .int .i64 0, .int .i64 0, .int .i64 0, .int .i64 0, .int .i64 0, .int .i64 0, .int .i64 0, .int .i64 0] }
def te217 : TE := { k := .struct [(0, 32, 216), (32, 1, 3)], size := 33, zero := some [.int .i64 0, .int .i64 0, .int .i64 0, .int .i64 0, .int .i64 0, .int .i64 0, .int .i64 0, .int .i64 0, .int .i64 0, .int .i64 0, .int .i64 0, .int .i64 0, .int .i64 0, .int .i64 0, .int .i64 0, .int .i64 0, .int .i64 0, .int .i64 0, .int .i64 0, .int .i64 0, .int .i64 0, .int .i64 0, .int .i64 0, .int .i64 0, .int .i64 0, .int .i64 0, .int .i64 0, .int .i64 0, .int .i64 0, .int .i64 0, .int .i64 0, .int .i64 0, .int .i64 0] }
def te221 : TE := { k := .struct [(0, 1, 3)], size := 1, zero := some [.int .i64 0] }
def te224 : TE := { k := .ptr 226, size := 1, zero := some [.pointer none] }
def te225 : TE := { k := .struct [(0, 1, 97), (1, 1, 3)], size := 2, zero := some [.slice none 0 0, .int .i64 0] }
def te243 : TE := { k := .struct [(0, 1, 2), (1, 1, 3)], size := 2, zero := some [.int .i64 0, .int .i64 0] }
def te245 : TE := { k := .struct [(0, 2, 244), (2, 1, 3)], size := 3, zero := some [.int .i64 0, .int .i64 0, .int .i64 0] }
def te248 : TE := { k := .ptr 183, size := 1, zero := some [.pointer none] }
def te261 : TE := { k := .ptr 347, size := 1, zero := some [.pointer none] }
def te262 : TE := { k := .struct [(0, 1, 3), (1, 1, 3), (2, 1, 261), (3, 1, 261), (4, 1, 3)], size := 5, zero := some [.int .i64 0, .int .i64 0, .pointer none, .pointer none, .int .i64 0] }
def te265 : TE := { k := .struct [(0, 1, 3), (1, 1, 174)], size := 2, zero := some [.int .i64 0, .slice none 0 0] }
def te267 : TE := { k := .ptr 80, size := 1, zero := some [.pointer none] }
def te271 : TE := { k := .ptr 53, size := 1, zero := some [.pointer none] }
def te274 : TE := { k := .arr 256 3 1, size := 256, zero := some (List.replicate 256 (.int .i64 0)) }
def te275 : TE := { k := .struct [(0, 256, 274), (256, 1, 3), (257, 1, 3), (258, 1, 3), (259, 1, 4)], size := 260, zero := some (List.replicate 256 (.int .i64 0) ++ [.int .i64 0, .int .i64 0, .int .i64 0, .bool false]) }
def te277 : TE := { k := .ptr 3, size := 1, zero := some [.pointer none] }
def te279 : TE := { k := .struct [(0, 1, 37)], size := 1, zero := some [.slice none 0 0] }
def te281 : TE := { k := .ptr 284, size := 1, zero := some [.pointer none] }
def te283 : TE := { k := .struct [(0, 1, 210), (1, 1, 210), (2, 1, 4)], size := 3, zero := some [.pointer none, .pointer none, .bool false] }
def te285 : TE := { k := .arr 32 3 1, size := 32, zero := some [.int .i64 0, .int .i64 0, .int .i64 0, .int .i64 0, .int .i64 0, .int .i64 0, .int .i64 0, .int .i64 0, .int .i64 0, .int .i64 0, .int .i64 0, .int .i64 0, .int .i64 0, .int .i64 0, .int .i64 0, .int .i64 0, .int .i64 0, .int .i64 0, .int .i64 0, .int .i64 0, .int .i64 0, .int .i64 0, .int .i64 0, .int .i64 0, .int .i64 0, .int .i64 0, .int .i64 0, .int .i64 0, .int .i64 0, .int .i64 0, .int .i64 0, .int .i64 0] }
def te286 : TE := { k := .struct [(0, 32, 285), (32, 1, 3)], size := 33, zero := some [.int .i64 0, .int .i64 0, .int .i64 0, .int .i64 0, .int .i64 0, .int .i64 0, .int .i64 0, .int .i64 0, .int .i64 0, .int .i64 0, .int .i64 0, .int .i64 0, .int .i64 0, .int .i64 0, .int .i64 0, .int .i64 0, .int .i64 0, .int .i64 0, .int .i64 0, .int .i64 0, .int .i64 0, .int .i64 0, .int .i64 0, .int .i64 0, .int .i64 0, .int .i64 0, .int .i64 0, .int .i64 0, .int .i64 0, .int .i64 0, .int .i64 0, .int .i64 0, .int .i64 0] }
def te288 : TE := { k := .arr 4 3 1, size := 4, zero := some [.int .i64 0, .int .i64 0, .int .i64 0, .int .i64 0] }
def te291 : TE := { k := .slice 371 4 96, size := 1, zero := some [.slice none 0 0] }
def te292 : TE := { k := .struct [(0, 1, 291)], size := 1, zero := some [.slice none 0 0] }
def te305 : TE := { k := .arr 6 4 1, size := 6, zero := some [.bool false, .bool false, .bool false, .bool false, .bool false, .bool false] }
def te306 : TE := { k := .arr 6 305 6, size := 36, zero := some [.bool false, .bool false, .bool false, .bool false, .bool false, .bool false, .bool false, .bool false, .bool false, .bool false, .bool false, .bool false, .bool false, .bool false, .bool false, .bool false, .bool false, .bool false, .bool false, .bool false, .bool false, .bool false, .bool false, .bool false, .bool false, .bool false, .bool false, .bool false, .bool false, .bool false, .bool false, .bool false, .bool false, .bool false, .bool false, .bool false] }
def te320 : TE := { k := .slice 318 1 8, size := 1, zero := some [.slice none 0 0] }
def te323 : TE := { k := .struct [], size := 0, zero := some [] }
def te340 : TE := { k := .struct [(0, 1, 2), (1, 1, 2)], size := 2, zero := some [.int .i64 0, .int .i64 0] }
def te342 : TE := { k := .map 3 341, size := 1, zero := some [.map none] }
def te343 : TE := { k := .struct [(0, 1, 2), (1, 1, 342), (2, 1, 2)], size := 3, zero := some [.int .i64 0, .map none, .int .i64 0] }
def te345 : TE := { k := .slice 349 1 8, size := 1, zero := some [.slice none 0 0] }
def te346 : TE := { k := .struct [(0, 1, 3), (1, 1, 345), (2, 1, 3)], size := 3, zero := some [.int .i64 0, .slice none 0 0, .int .i64 0] }
def te350 : TE := { k := .arr 3 3 1, size := 3, zero := some [.int .i64 0, .int .i64 0, .int .i64 0] }
def te351 : TE := { k := .arr 18 350 3, size := 54, zero := some (List.replicate 54 (.int .i64 0)) }
def te366 : TE := { k := .slice 215 2 16, size := 1, zero := some [.slice none 0 0] }
def te368 : TE := { k := .arr 2 3 1, size := 2, zero := some [.int .i64 0, .int .i64 0] }
def te369 : TE := { k := .arr 2 37 1, size := 2, zero := some [.slice none 0 0, .slice none 0 0] }
def te370 : TE := { k := .arr 2 369 2, size := 4, zero := some [.slice none 0 0, .slice none 0 0, .slice none 0 0, .slice none 0 0] }
def te387 : TE := { k := .ptr 37, size := 1, zero := some [.pointer none] }
def te397 : TE := { k := .int .u32, size := 1, zero := some [.int .u32 0] }
def te399 : TE := { k := .ptr 83, size := 1, zero := some [.pointer none] }
def tauB0 (t : Nat) : TE := (bif Nat.blt t 8 then (bif Nat.blt t 4 then (bif Nat.blt t 2 then (bif Nat.blt t 1 then te0 else te1) else (bif Nat.blt t 3 then te2 else te2)) else (bif Nat.blt t 6 then (bif Nat.blt t 5 then te4 else te5) else (bif Nat.blt t 7 then te5 else te7))) else (bif Nat.blt t 12 then (bif Nat.blt t 10 then (bif Nat.blt t 9 then te7 else te9) else (bif Nat.blt t 11 then te9 else te9)) else (bif Nat.blt t 14 then (bif Nat.blt t 13 then te12 else te13) else (bif Nat.blt t 15 then te13 else te15))))
def tauB16 (t : Nat) : TE := (bif Nat.blt t 24 then (bif Nat.blt t 20 then (bif Nat.blt t 18 then (bif Nat.blt t 17 then te16 else te17) else (bif Nat.blt t 19 then te18 else te18)) else (bif Nat.blt t 22 then (bif Nat.blt t 21 then te20 else te21) else (bif Nat.blt t 23 then te22 else te23))) else (bif Nat.blt t 28 then (bif Nat.blt t 26 then (bif Nat.blt t 25 then te23 else te12) else (bif Nat.blt t 27 then te26 else te1)) else (bif Nat.blt t 30 then (bif Nat.blt t 29 then te28 else te29) else (bif Nat.blt t 31 then te29 else te1))))
def tauB32 (t : Nat) : TE := (bif Nat.blt t 40 then (bif Nat.blt t 36 then (bif Nat.blt t 34 then (bif Nat.blt t 33 then te32 else te32) else (bif Nat.blt t 35 then te34 else te35)) else (bif Nat.blt t 38 then (bif Nat.blt t 37 then te36 else te37) else (bif Nat.blt t 39 then te38 else te39))) else (bif Nat.blt t 44 then (bif Nat.blt t 42 then (bif Nat.blt t 41 then te40 else te40) else (bif Nat.blt t 43 then te42 else te42)) else (bif Nat.blt t 46 then (bif Nat.blt t 45 then te44 else te44) else (bif Nat.blt t 47 then te1 else te1))))
def tauB48 (t : Nat) : TE := (bif Nat.blt t 56 then (bif Nat.blt t 52 then (bif Nat.blt t 50 then (bif Nat.blt t 49 then te1 else te1) else (bif Nat.blt t 51 then te1 else te1)) else (bif Nat.blt t 54 then (bif Nat.blt t 53 then te52 else te52) else (bif Nat.blt t 55 then te0 else te1))) else (bif Nat.blt t 60 then (bif Nat.blt t 58 then (bif Nat.blt t 57 then te1 else te57) else (bif Nat.blt t 59 then te57 else te0)) else (bif Nat.blt t 62 then (bif Nat.blt t 61 then te1 else te1) else (bif Nat.blt t 63 then te62 else te62))))
def tauB64 (t : Nat) : TE := (bif Nat.blt t 72 then (bif Nat.blt t 68 then (bif Nat.blt t 66 then (bif Nat.blt t 65 then te1 else te65) else (bif Nat.blt t 67 then te1 else te1)) else (bif Nat.blt t 70 then (bif Nat.blt t 69 then te0 else te1) else (bif Nat.blt t 71 then te1 else te1))) else (bif Nat.blt t 76 then (bif Nat.blt t 74 then (bif Nat.blt t 73 then te72 else te72) else (bif Nat.blt t 75 then te1 else te1)) else (bif Nat.blt t 78 then (bif Nat.blt t 77 then te76 else te77) else (bif Nat.blt t 79 then te78 else te79))))
def tauB80 (t : Nat) : TE := (bif Nat.blt t 88 then (bif Nat.blt t 84 then (bif Nat.blt t 82 then (bif Nat.blt t 81 then te79 else te81) else (bif Nat.blt t 83 then te82 else te82)) else (bif Nat.blt t 86 then (bif Nat.blt t 85 then te84 else te84) else (bif Nat.blt t 87 then te1 else te1))) else (bif Nat.blt t 92 then (bif Nat.blt t 90 then (bif Nat.blt t 89 then te88 else te89) else (bif Nat.blt t 91 then te89 else te1)) else (bif Nat.blt t 94 then (bif Nat.blt t 93 then te1 else te1) else (bif Nat.blt t 95 then te1 else te0))))
def tauB96 (t : Nat) : TE := (bif Nat.blt t 104 then (bif Nat.blt t 100 then (bif Nat.blt t 98 then (bif Nat.blt t 97 then te1 else te97) else (bif Nat.blt t 99 then te1 else te99)) else (bif Nat.blt t 102 then (bif Nat.blt t 101 then te1 else te101) else (bif Nat.blt t 103 then te102 else te103))) else (bif Nat.blt t 108 then (bif Nat.blt t 106 then (bif Nat.blt t 105 then te104 else te105) else (bif Nat.blt t 107 then te106 else te107)) else (bif Nat.blt t 110 then (bif Nat.blt t 109 then te108 else te109) else (bif Nat.blt t 111 then te110 else te111))))
def tauB112 (t : Nat) : TE := (bif Nat.blt t 120 then (bif Nat.blt t 116 then (bif Nat.blt t 114 then (bif Nat.blt t 113 then te112 else te113) else (bif Nat.blt t 115 then te113 else te1)) else (bif Nat.blt t 118 then (bif Nat.blt t 117 then te1 else te1) else (bif Nat.blt t 119 then te118 else te119))) else (bif Nat.blt t 124 then (bif Nat.blt t 122 then (bif Nat.blt t 121 then te120 else te120) else (bif Nat.blt t 123 then te0 else te1)) else (bif Nat.blt t 126 then (bif Nat.blt t 125 then te124 else te125) else (bif Nat.blt t 127 then te126 else te127))))
def tauB128 (t : Nat) : TE := (bif Nat.blt t 136 then (bif Nat.blt t 132 then (bif Nat.blt t 130 then (bif Nat.blt t 129 then te127 else te0) else (bif Nat.blt t 131 then te1 else te131)) else (bif Nat.blt t 134 then (bif Nat.blt t 133 then te1 else te133) else (bif Nat.blt t 135 then te133 else te135))) else (bif Nat.blt t 140 then (bif Nat.blt t 138 then (bif Nat.blt t 137 then te1 else te1) else (bif Nat.blt t 139 then te1 else te0)) else (bif Nat.blt t 142 then (bif Nat.blt t 141 then te1 else te1) else (bif Nat.blt t 143 then te1 else te0))))
def tauB144 (t : Nat) : TE := (bif Nat.blt t 152 then (bif Nat.blt t 148 then (bif Nat.blt t 146 then (bif Nat.blt t 145 then te1 else te1) else (bif Nat.blt t 147 then te1 else te0)) else (bif Nat.blt t 150 then (bif Nat.blt t 149 then te1 else te0) else (bif Nat.blt t 151 then te1 else te0))) else (bif Nat.blt t 156 then (bif Nat.blt t 154 then (bif Nat.blt t 153 then te1 else te1) else (bif Nat.blt t 155 then te1 else te1)) else (bif Nat.blt t 158 then (bif Nat.blt t 157 then te1 else te1) else (bif Nat.blt t 159 then te1 else te1))))
def tauB160 (t : Nat) : TE := (bif Nat.blt t 168 then (bif Nat.blt t 164 then (bif Nat.blt t 162 then (bif Nat.blt t 161 then te1 else te1) else (bif Nat.blt t 163 then te1 else te1)) else (bif Nat.blt t 166 then (bif Nat.blt t 165 then te1 else te1) else (bif Nat.blt t 167 then te1 else te167))) else (bif Nat.blt t 172 then (bif Nat.blt t 170 then (bif Nat.blt t 169 then te168 else te169) else (bif Nat.blt t 171 then te170 else te171)) else (bif Nat.blt t 174 then (bif Nat.blt t 173 then te171 else te173) else (bif Nat.blt t 175 then te174 else te1))))
def tauB176 (t : Nat) : TE := (bif Nat.blt t 184 then (bif Nat.blt t 180 then (bif Nat.blt t 178 then (bif Nat.blt t 177 then te176 else te176) else (bif Nat.blt t 179 then te1 else te179)) else (bif Nat.blt t 182 then (bif Nat.blt t 181 then te180 else te180) else (bif Nat.blt t 183 then te182 else te182))) else (bif Nat.blt t 188 then (bif Nat.blt t 186 then (bif Nat.blt t 185 then te184 else te184) else (bif Nat.blt t 187 then te0 else te1)) else (bif Nat.blt t 190 then (bif Nat.blt t 189 then te188 else te188) else (bif Nat.blt t 191 then te190 else te191))))
def tauB192 (t : Nat) : TE := (bif Nat.blt t 200 then (bif Nat.blt t 196 then (bif Nat.blt t 194 then (bif Nat.blt t 193 then te192 else te192) else (bif Nat.blt t 195 then te194 else te195)) else (bif Nat.blt t 198 then (bif Nat.blt t 197 then te196 else te196) else (bif Nat.blt t 199 then te1 else te1))) else (bif Nat.blt t 204 then (bif Nat.blt t 202 then (bif Nat.blt t 201 then te1 else te1) else (bif Nat.blt t 203 then te176 else te176)) else (bif Nat.blt t 206 then (bif Nat.blt t 205 then te0 else te1) else (bif Nat.blt t 207 then te206 else te207))))
def tauB208 (t : Nat) : TE := (bif Nat.blt t 216 then (bif Nat.blt t 212 then (bif Nat.blt t 210 then (bif Nat.blt t 209 then te208 else te208) else (bif Nat.blt t 211 then te210 else te211)) else (bif Nat.blt t 214 then (bif Nat.blt t 213 then te212 else te212) else (bif Nat.blt t 215 then te176 else te176))) else (bif Nat.blt t 220 then (bif Nat.blt t 218 then (bif Nat.blt t 217 then te216 else te217) else (bif Nat.blt t 219 then te217 else te1)) else (bif Nat.blt t 222 then (bif Nat.blt t 221 then te1 else te221) else (bif Nat.blt t 223 then te221 else te0))))
def tauB224 (t : Nat) : TE := (bif Nat.blt t 232 then (bif Nat.blt t 228 then (bif Nat.blt t 226 then (bif Nat.blt t 225 then te224 else te225) else (bif Nat.blt t 227 then te225 else te57)) else (bif Nat.blt t 230 then (bif Nat.blt t 229 then te57 else te1) else (bif Nat.blt t 231 then te1 else te1))) else (bif Nat.blt t 236 then (bif Nat.blt t 234 then (bif Nat.blt t 233 then te0 else te1) else (bif Nat.blt t 235 then te1 else te1)) else (bif Nat.blt t 238 then (bif Nat.blt t 237 then te1 else te82) else (bif Nat.blt t 239 then te82 else te1))))
def tauB240 (t : Nat) : TE := (bif Nat.blt t 248 then (bif Nat.blt t 244 then (bif Nat.blt t 242 then (bif Nat.blt t 241 then te0 else te1) else (bif Nat.blt t 243 then te1 else te243)) else (bif Nat.blt t 246 then (bif Nat.blt t 245 then te243 else te245) else (bif Nat.blt t 247 then te245 else te1))) else (bif Nat.blt t 252 then (bif Nat.blt t 250 then (bif Nat.blt t 249 then te248 else te1) else (bif Nat.blt t 251 then te1 else te1)) else (bif Nat.blt t 254 then (bif Nat.blt t 253 then te1 else te1) else (bif Nat.blt t 255 then te1 else te1))))
def tauB256 (t : Nat) : TE := (bif Nat.blt t 264 then (bif Nat.blt t 260 then (bif Nat.blt t 258 then (bif Nat.blt t 257 then te0 else te1) else (bif Nat.blt t 259 then te1 else te1)) else (bif Nat.blt t 262 then (bif Nat.blt t 261 then te1 else te261) else (bif Nat.blt t 263 then te262 else te262))) else (bif Nat.blt t 268 then (bif Nat.blt t 266 then (bif Nat.blt t 265 then te1 else te265) else (bif Nat.blt t 267 then te265 else te267)) else (bif Nat.blt t 270 then (bif Nat.blt t 269 then te0 else te1) else (bif Nat.blt t 271 then te1 else te271))))
def tauB272 (t : Nat) : TE := (bif Nat.blt t 280 then (bif Nat.blt t 276 then (bif Nat.blt t 274 then (bif Nat.blt t 273 then te1 else te1) else (bif Nat.blt t 275 then te274 else te275)) else (bif Nat.blt t 278 then (bif Nat.blt t 277 then te275 else te277) else (bif Nat.blt t 279 then te1 else te279))) else (bif Nat.blt t 284 then (bif Nat.blt t 282 then (bif Nat.blt t 281 then te279 else te281) else (bif Nat.blt t 283 then te1 else te283)) else (bif Nat.blt t 286 then (bif Nat.blt t 285 then te283 else te285) else (bif Nat.blt t 287 then te286 else te286))))
def tauB288 (t : Nat) : TE := (bif Nat.blt t 296 then (bif Nat.blt t 292 then (bif Nat.blt t 290 then (bif Nat.blt t 289 then te288 else te1) else (bif Nat.blt t 291 then te1 else te291)) else (bif Nat.blt t 294 then (bif Nat.blt t 293 then te292 else te292) else (bif Nat.blt t 295 then te1 else te1))) else (bif Nat.blt t 300 then (bif Nat.blt t 298 then (bif Nat.blt t 297 then te1 else te57) else (bif Nat.blt t 299 then te57 else te1)) else (bif Nat.blt t 302 then (bif Nat.blt t 301 then te1 else te20) else (bif Nat.blt t 303 then te20 else te1))))
def tauB304 (t : Nat) : TE := (bif Nat.blt t 312 then (bif Nat.blt t 308 then (bif Nat.blt t 306 then (bif Nat.blt t 305 then te1 else te305) else (bif Nat.blt t 307 then te306 else te1)) else (bif Nat.blt t 310 then (bif Nat.blt t 309 then te0 else te1) else (bif Nat.blt t 311 then te0 else te1))) else (bif Nat.blt t 316 then (bif Nat.blt t 314 then (bif Nat.blt t 313 then te1 else te1) else (bif Nat.blt t 315 then te1 else te1)) else (bif Nat.blt t 318 then (bif Nat.blt t 317 then te1 else te1) else (bif Nat.blt t 319 then te1 else te1))))
def tauB320 (t : Nat) : TE := (bif Nat.blt t 328 then (bif Nat.blt t 324 then (bif Nat.blt t 322 then (bif Nat.blt t 321 then te320 else te0) else (bif Nat.blt t 323 then te1 else te323)) else (bif Nat.blt t 326 then (bif Nat.blt t 325 then te323 else te0) else (bif Nat.blt t 327 then te1 else te1))) else (bif Nat.blt t 332 then (bif Nat.blt t 330 then (bif Nat.blt t 329 then te0 else te1) else (bif Nat.blt t 331 then te1 else te1)) else (bif Nat.blt t 334 then (bif Nat.blt t 333 then te1 else te0) else (bif Nat.blt t 335 then te1 else te0))))
def tauB336 (t : Nat) : TE := (bif Nat.blt t 344 then (bif Nat.blt t 340 then (bif Nat.blt t 338 then (bif Nat.blt t 337 then te1 else te1) else (bif Nat.blt t 339 then te1 else te1)) else (bif Nat.blt t 342 then (bif Nat.blt t 341 then te340 else te340) else (bif Nat.blt t 343 then te342 else te343))) else (bif Nat.blt t 348 then (bif Nat.blt t 346 then (bif Nat.blt t 345 then te343 else te345) else (bif Nat.blt t 347 then te346 else te346)) else (bif Nat.blt t 350 then (bif Nat.blt t 349 then te1 else te12) else (bif Nat.blt t 351 then te350 else te351))))
def tauB352 (t : Nat) : TE := (bif Nat.blt t 360 then (bif Nat.blt t 356 then (bif Nat.blt t 354 then (bif Nat.blt t 353 then te1 else te1) else (bif Nat.blt t 355 then te1 else te1)) else (bif Nat.blt t 358 then (bif Nat.blt t 357 then te0 else te1) else (bif Nat.blt t 359 then te1 else te1))) else (bif Nat.blt t 364 then (bif Nat.blt t 362 then (bif Nat.blt t 361 then te0 else te1) else (bif Nat.blt t 363 then te1 else te1)) else (bif Nat.blt t 366 then (bif Nat.blt t 365 then te1 else te1) else (bif Nat.blt t 367 then te366 else te1))))
def tauB368 (t : Nat) : TE := (bif Nat.blt t 376 then (bif Nat.blt t 372 then (bif Nat.blt t 370 then (bif Nat.blt t 369 then te368 else te369) else (bif Nat.blt t 371 then te370 else te370)) else (bif Nat.blt t 374 then (bif Nat.blt t 373 then te1 else te1) else (bif Nat.blt t 375 then te1 else te0))) else (bif Nat.blt t 380 then (bif Nat.blt t 378 then (bif Nat.blt t 377 then te1 else te1) else (bif Nat.blt t 379 then te1 else te1)) else (bif Nat.blt t 382 then (bif Nat.blt t 381 then te57 else te57) else (bif Nat.blt t 383 then te1 else te0))))
def tauB384 (t : Nat) : TE := (bif Nat.blt t 392 then (bif Nat.blt t 388 then (bif Nat.blt t 386 then (bif Nat.blt t 385 then te1 else te1) else (bif Nat.blt t 387 then te1 else te387)) else (bif Nat.blt t 390 then (bif Nat.blt t 389 then te1 else te1) else (bif Nat.blt t 391 then te2 else te0))) else (bif Nat.blt t 396 then (bif Nat.blt t 394 then (bif Nat.blt t 393 then te1 else te1) else (bif Nat.blt t 395 then te1 else te1)) else (bif Nat.blt t 398 then (bif Nat.blt t 397 then te1 else te397) else (bif Nat.blt t 399 then te1 else te399))))
def tauB400 (t : Nat) : TE := (bif Nat.blt t 408 then (bif Nat.blt t 404 then (bif Nat.blt t 402 then (bif Nat.blt t 401 then te1 else te20) else (bif Nat.blt t 403 then te20 else te1)) else (bif Nat.blt t 406 then (bif Nat.blt t 405 then te1 else te1) else (bif Nat.blt t 407 then te1 else te0))) else (bif Nat.blt t 412 then (bif Nat.blt t 410 then (bif Nat.blt t 409 then te1 else te1) else (bif Nat.blt t 411 then te1 else te1)) else (bif Nat.blt t 414 then (bif Nat.blt t 413 then te1 else te12) else (bif Nat.blt t 415 then te1 else te1))))
def tauB416 (t : Nat) : TE := (bif Nat.blt t 418 then (bif Nat.blt t 417 then te1 else te1) else (bif Nat.blt t 419 then te1 else te1))
def tau (t : Nat) : TE := (bif Nat.blt t 208 then (bif Nat.blt t 96 then (bif Nat.blt t 48 then (bif Nat.blt t 16 then tauB0 t else (bif Nat.blt t 32 then tauB16 t else tauB32 t)) else (bif Nat.blt t 64 then tauB48 t else (bif Nat.blt t 80 then tauB64 t else tauB80 t))) else (bif Nat.blt t 144 then (bif Nat.blt t 112 then tauB96 t else (bif Nat.blt t 128 then tauB112 t else tauB128 t)) else (bif Nat.blt t 176 then (bif Nat.blt t 160 then tauB144 t else tauB160 t) else (bif Nat.blt t 192 then tauB176 t else tauB192 t)))) else (bif Nat.blt t 320 then (bif Nat.blt t 256 then (bif Nat.blt t 224 then tauB208 t else (bif Nat.blt t 240 then tauB224 t else tauB240 t)) else (bif Nat.blt t 288 then (bif Nat.blt t 272 then tauB256 t else tauB272 t) else (bif Nat.blt t 304 then tauB288 t else tauB304 t))) else (bif Nat.blt t 368 then (bif Nat.blt t 336 then tauB320 t else (bif Nat.blt t 352 then tauB336 t else tauB352 t)) else (bif Nat.blt t 400 then (bif Nat.blt t 384 then tauB368 t else tauB384 t) else (bif Nat.blt t 416 then tauB400 t else tauB416 t)))))
def tauN : Nat := 420

def TE.agg (e : TE) : Bool := match e.k with | .arr .. => true | .struct .. => true | _ => false

/-- Equality of plain values. -/
def vbeq : Value → Value → Bool
  | .bool a, .bool b => a == b
  | .int k a, .int l b => k == l && a == b
  | .float k a, .float l b => k == l && a == b
  | .string a, .string b => a.data.toList == b.data.toList
  | .pointer none, .pointer none => true
  | .slice none a b, .slice none c d => a == c && b == d
  | .map none, .map none => true
  | .nilIface, .nilIface => true
  | .nilFunc, .nilFunc => true
  | _, _ => false
theorem vbeq_eq {a b : Value} (h : vbeq a b = true) : a = b := by
  unfold vbeq at h
  split at h <;> simp_all
  rename_i x y
  exact ByteArray.ext h
def vsbeq : List Value → List Value → Bool
  | [], [] => true
  | a :: x, b :: y => vbeq a b && vsbeq x y
  | _, _ => false
theorem vsbeq_eq : ∀ {a b : List Value}, vsbeq a b = true → a = b
  | [], [], _ => rfl
  | a :: x, b :: y, h => by
    simp only [vsbeq, Bool.and_eq_true] at h
    rw [vbeq_eq h.1, vsbeq_eq h.2]
  | [], _ :: _, h => by simp [vsbeq] at h
  | _ :: _, [], h => by simp [vsbeq] at h

def szOf (t : Nat) : Nat := match PP.info? t with | some i => i.size | none => 0
def byOf (t : Nat) : Nat := match PP.info? t with | some i => i.bytes | none => 0

def kOK : TK → TypeDesc → Bool
  | .int k, .int k' => k == k'
  | .bool, .bool => true
  | .str, .string => true
  | .flt, .float .f64 => true
  | .ptr x, .pointer y => x == y
  | .slice x s b, .slice y => x == y && (PP.info? y).isSome && szOf y == s && byOf y == b
  | .arr n x s, .array m y => n == m && x == y && (PP.info? y).isSome && szOf y == s
  | .struct fs, .struct gs => (gs.toList.map fun f => (f.offset, szOf f.type, f.type)) == fs && gs.toList.all (fun f => (PP.info? f.type).isSome)
  | .map a b, .map c d => a == c && b == d
  | .iface, .interface _ => true
  | .func, .func .. => true
  | _, _ => false
def teOK (t : Nat) (e : TE) : Bool :=
  match e.k with
  | .other => true
  | k => match PP.info? t with
    | some i => i.size == e.size && (match e.zero with
        | none => true
        | some z => (match i.zero with | some v => vsbeq v.cells.toList z && (match v with | .agg _ => e.agg | .tuple _ => false | _ => !e.agg) | none => false)) &&
        (match PP.underlying t with | some d => kOK k d | none => false)
    | none => false
theorem tau_all : (List.range tauN).all (fun t => teOK t (tau t)) = true := by kernel_rfl
theorem tau_ok {t : Nat} (h : Nat.blt t tauN = true) : teOK t (tau t) = true := by
  have := List.all_eq_true.1 tau_all t (List.mem_range.2 (by simpa [Nat.blt_eq] using h))
  exact this

/-! ### Frames -/
inductive Fr where
  | base (f : Nat → Value)
  | cons (d : Nat) (v : Value) (r : Fr)
def Fr.get (ρ : Fr) (t : Nat) : Value := Fr.rec (motive := fun _ => Value) (fun f => f t) (fun d v _ ih => Bool.rec (motive := fun _ => Value) ih v (Nat.beq d t)) ρ
theorem Fr.get_base (f : Nat → Value) (t : Nat) : (Fr.base f).get t = f t := rfl
theorem Fr.get_cons (d : Nat) (v : Value) (r : Fr) (t : Nat) : (Fr.cons d v r).get t = match Nat.beq d t with | true => v | false => r.get t := by
  show Bool.rec (motive := fun _ => Value) (r.get t) v (Nat.beq d t) = _
  cases Nat.beq d t <;> rfl
def Fr.put (n : Nat) (ρ : Fr) : Option Nat → Value → Fr
  | none, _ => ρ
  | some d, v => match Nat.blt d n with | true => .cons d v ρ | false => ρ
def Fr.ev (ρ : Fr) : Operand → Value
  | .tmp t => ρ.get t
  | .const v => v
  | .global g => .pointer (some ⟨g, 0, none⟩)
  | .func f => .func (.func f) #[] #[]
def Fr.evs (ρ : Fr) (l : List Operand) : List Value := List.rec (motive := fun _ => List Value) [] (fun x _ ih => ρ.ev x :: ih) l
def Fr.evp (ρ : Fr) (l : List (Nat × Operand)) : List (Nat × Value) := List.rec (motive := fun _ => List (Nat × Value)) [] (fun x _ ih => (x.1, ρ.ev x.2) :: ih) l
theorem Fr.evs_cons (ρ : Fr) (x : Operand) (r : List Operand) : ρ.evs (x :: r) = ρ.ev x :: ρ.evs r := rfl
theorem Fr.evs_nil (ρ : Fr) : ρ.evs [] = [] := rfl
theorem Fr.evp_cons (ρ : Fr) (x : Nat × Operand) (r : List (Nat × Operand)) : ρ.evp (x :: r) = (x.1, ρ.ev x.2) :: ρ.evp r := rfl
theorem Fr.evp_nil (ρ : Fr) : ρ.evp [] = [] := rfl
def frOf : List Value → Nat → Fr → Fr
  | [], _, r => r
  | v :: l, i, r => frOf l (i + 1) (.cons i v r)

structure Rel (n : Nat) (ρ : Fr) (a : Act) : Prop where
  size : a.tmps.size = n
  get : ∀ t, a.tmps.getD t undef = ρ.get t

theorem Rel.ev {n : Nat} {ρ : Fr} {a : Act} (h : Rel n ρ a) : a.eval = ρ.ev := by
  funext x
  cases x <;> simp [Act.eval, Fr.ev]
  exact by simpa using h.get _
theorem Rel.put {n : Nat} {ρ : Fr} {a : Act} (h : Rel n ρ a) (d : Option Nat) (v : Value) : Rel n (ρ.put n d v) (a.put d v) := by
  cases d with
  | none => exact h
  | some d =>
    refine ⟨by simpa [Act.put] using h.size, fun t => ?_⟩
    unfold Fr.put Act.put
    by_cases hd : d < n
    · have hb : Nat.blt d n = true := by simpa [Nat.blt_eq] using hd
      simp only [hb, Fr.get_cons]
      by_cases hdt : d = t
      · subst hdt
        simp [h.size, hd]
      · have hbe : Nat.beq d t = false := by
          cases hh : Nat.beq d t with
          | false => rfl
          | true => exact absurd (Nat.eq_of_beq_eq_true hh) hdt
        simp only [hbe]
        rw [← h.get t]
        simp [Array.getD_eq_getD_getElem?, Array.getElem?_setIfInBounds_ne hdt]
    · have hb : Nat.blt d n = false := by
        cases hh : Nat.blt d n with
        | false => rfl
        | true => exact absurd (by simpa [Nat.blt_eq] using hh) hd
      simp only [hb]
      have : a.tmps.setIfInBounds d v = a.tmps := by
        apply Array.setIfInBounds_eq_of_size_le
        rw [h.size]; omega
      rw [this]; exact h.get t
theorem Rel.evs {n : Nat} {ρ : Fr} {a : Act} (h : Rel n ρ a) (l : List Operand) : l.map a.eval = ρ.evs l := by
  induction l with
  | nil => rfl
  | cons x l ih => simp [Fr.evs_cons, h.ev, ← ih]
theorem evs_map (ρ : Fr) (l : List Operand) : ρ.evs l = l.map ρ.ev := by
  induction l with
  | nil => rfl
  | cons x l ih => simp [Fr.evs_cons, ih]
theorem evp_map (ρ : Fr) (l : List (Nat × Operand)) : ρ.evp l = l.map (fun p => (p.1, ρ.ev p.2)) := by
  induction l with
  | nil => rfl
  | cons x l ih => obtain ⟨i, y⟩ := x; simp [Fr.evp_cons, ih]

/-! ### What cannot be computed stands sealed -/
inductive CLt (a b : Int) (K : Bool → Prop) : Prop
  | yes (h : a < b) (k : K true)
  | no (h : ¬ a < b) (k : K false)
inductive CEq (a b : Int) (K : Bool → Prop) : Prop
  | yes (h : a = b) (k : K true)
  | no (h : ¬ a = b) (k : K false)

def artV (op : BinOp) (k : IntKind) (a b : Int) : Option Int :=
  match op with
  | .add => some (k.wrap (a + b))
  | .sub => some (k.wrap (a - b))
  | .mul => some (k.wrap (a * b))
  | .quo => if b = 0 then none else some (k.wrap (a.tdiv b))
  | .rem => if b = 0 then none else some (a.tmod b)
  | .and => some (k.wrap (BitVec.ofInt k.bits a &&& BitVec.ofInt k.bits b).toNat)
  | .or => some (k.wrap (BitVec.ofInt k.bits a ||| BitVec.ofInt k.bits b).toNat)
  | .xor => some (k.wrap (BitVec.ofInt k.bits a ^^^ BitVec.ofInt k.bits b).toNat)
  | .andNot => some (k.wrap (BitVec.ofInt k.bits a &&& ~~~(BitVec.ofInt k.bits b)).toNat)
  | .shl => if b < 0 then none else some (k.wrap (a * 2 ^ (min b.toNat k.bits)))
  | .shr => if b < 0 then none else some (a.fdiv (2 ^ (min b.toNat k.bits)))
  | _ => none
/-- Arithmetic: the number comes out as a letter. -/
inductive ART (op : BinOp) (k : IntKind) (a b : Int) (K : Int → Prop) : Prop
  | mk (r : Int) (h : artV op k a b = some r) (k : K r)
/-- A conversion of an integer to another kind. -/
inductive CVI (k : IntKind) (a : Int) (K : Int → Prop) : Prop
  | mk (r : Int) (h : r = k.wrap a) (k : K r)
/-- A length, as a letter. -/
inductive LEN (n : Nat) (K : Int → Prop) : Prop
  | mk (r : Int) (h : r = n) (k : K r)
/-- An index within its bounds; and the place that it names. -/
inductive BD (i : Int) (n esz o : Nat) (K : Nat → Prop) : Prop
  | mk (o' : Nat) (h : 0 ≤ i ∧ i < n ∧ o' = o + i.toNat * esz) (k : K o')

def ikn : IntKind → Nat | .i8 => 0 | .i16 => 1 | .i32 => 2 | .i64 => 3 | .u8 => 4 | .u16 => 5 | .u32 => 6 | .u64 => 7
theorem ikn_inj {a b : IntKind} (h : Nat.beq (ikn a) (ikn b) = true) : a = b := by
  have := Nat.eq_of_beq_eq_true h
  cases a <;> cases b <;> simp_all [ikn]

/-- An operation whose run is shown by hand. -/
def semOf (op : Op) (ty : TypeId) (vs : List Value) : Sem Value :=
  match op, vs with
  | .alloc t, _ => Instr.alloc t true (.tuple #[])
  | .box t _, [v] => Instr.box t v
  | .build t ps, vs => Instr.build t ((ps.toList.map (·.1)).zip vs).toArray
  | .buildSlice t n ps, vs => Instr.buildSlice t n ((ps.toList.map (·.1)).zip vs).toArray
  | .load t _, [a] => Instr.loadAt t a
  | .store t _ _, [a, v] => do Instr.storeAt t a v; pure undef
  | .binOp op t x y _, [a, b] => do eqGuard op t x y a b; binOp op t a b
  | .unOp op _ _, [a] => Op.unary op a
  | .convert s d _, [x] => convert s d x
  | .makeMap t none, [] => Instr.makeMap t none
  | .makeSlice t _ _, [l, c] => Instr.makeSlice t l c
  | .slice t _ lo hi _, x :: r =>
    Instr.sliceAt t x (match lo, r with | some _, a :: _ => some a | _, _ => none)
      (match lo, hi, r with | none, some _, a :: _ => some a | some _, some _, _ :: a :: _ => some a | _, _, _ => none) none
  | .indexAddr t _ _, [x, i] => Instr.indexAt t x i
  | .index t _ _, [x, i] => Instr.index t x i
  | .lookup t _ _ ok, [x, i] => Instr.lookup t x i ok
  | .mapUpdate t _ _ _, [m, k, x] => do Instr.mapUpdate t m k x; pure undef
  | .insert t _ _ _, [m, k, x] => do Instr.mapUpdate t m k x; pure undef
  | .range t _, [x] => Instr.range t x
  | .next _ s, [x] => Instr.next x s ty
  | .entry _, [x] => Instr.entry x
  | .typeAssert _ xt t ok, [x] => Instr.typeAssert x xt t ok
  | .call { callee := .builtin .append, argTypes := ts, .. }, vs => Builtin.append_ ts ty vs.toArray
  | .call { callee := .builtin .copy, argTypes := ts, .. }, vs => Builtin.copy_ ts ty vs.toArray
  | .call { callee := .builtin .len, argTypes := ts, .. }, vs => Builtin.len_ ts ty vs.toArray
  | .call { callee := .builtin .cap, argTypes := ts, .. }, vs => Builtin.cap_ ts ty vs.toArray
  | .call { callee := .builtin .clear, argTypes := ts, .. }, vs => Builtin.clear_ ts ty vs.toArray
  | .call { callee := .builtin .delete, argTypes := ts, .. }, vs => Builtin.delete_ ts ty vs.toArray
  | .call { callee := .builtin .max, argTypes := ts, .. }, vs => Builtin.max_ ts ty vs.toArray
  | .call { callee := .builtin .min, argTypes := ts, .. }, vs => Builtin.min_ ts ty vs.toArray
  | _, _ => Go.stuck "semOf"

inductive RUN (op : Op) (ty : TypeId) (vs : List Value) (w : World) (K : Value → World → Prop) (X : List PanicEntry → World → Prop) : Prop
  | ok (v : Value) (w' : World) (h : (semOf op ty vs).run PP w = .ok v w') (k : K v w')
  | pan (v : Value) (w' : World) (h : (semOf op ty vs).run PP w = .halt (.panic v) w') (k : X [{ v, recovered := false }] w')

def okCallee (f : Nat) : Bool := match PP.funcs[f]? with
  | some fn => !(fn.name == "runtime.NumGoroutine") && fn.body.isSome
  | none => false

def memN (n : Nat) : List Nat → Bool
  | [] => false
  | a :: l => Nat.beq a n || memN n l
/-- The functions that have a body. -/
def okc (f : Nat) : Bool := Nat.blt f 431 && !memN f [0, 1, 192, 278, 279, 338, 363, 389, 393, 394, 395, 396, 397, 398, 399, 400, 401, 402, 403, 404, 405, 406, 407, 408, 409, 410, 414, 415]
theorem okc_all : (List.range 431).all (fun f => !okc f || okCallee f) = true := by kernel_rfl
theorem okc_ok {f : Nat} (h : okc f = true) : okCallee f = true := by
  have h1 : f < 431 := by
    simp only [okc, Bool.and_eq_true] at h
    simpa [Nat.blt_eq] using h.1
  have h2 := List.all_eq_true.1 okc_all f (List.mem_range.2 h1)
  rw [h] at h2
  simpa using h2

/-- A call of a Go function. -/
inductive CALL (f : Nat) (args : List Value) (w : World) (K : Value → World → Prop) (X : List PanicEntry → World → Prop) : Prop
  | mk (hc : okc f = true) (h : Calls PP f args.toArray w (fun e w' => match e with | .returned v => K v w' | .panicked c => X c w' | .outgrown => False))
  | ext (v : Value) (w' : World) (h : (callFunc f args.toArray).run PP w = .ok (.value v) w') (k : K v w')
/-- A call of a method of an interface value. -/
inductive INV (t : Nat) (v : Value) (name : String) (args : List Value) (w : World) (K : Value → World → Prop) (X : List PanicEntry → World → Prop) : Prop
  | mk (f : Nat) (r : Value) (hm : (method ((PP).types.size + Made.depth) t v name).run PP w = .ok (f, r) w) (k : CALL f (r :: args) w K X)
/-- A region that draws its order. -/
inductive DRAW (n : Nat) (id : Nat) (ops : Array Oper) (ρ : Fr) (ds : List Deferred) (w : World) (K : Exit → Fr → List Deferred → World → Prop) : Prop
  | mk (h : ∀ a, Rel n ρ a → a.defers = ds → (Code.region id ops true).wp PP (fun e a' w' => ∃ ρ', Rel n ρ' a' ∧ K e ρ' a'.defers w') a w)
/-- Two frames that hold the same. -/
def FrEq (ρ ρ' : Fr) : Prop := ∀ t, ρ.get t = ρ'.get t
/-- So many rounds at most. -/
def LN (D : Fr → List Deferred → World → (Exit → Fr → List Deferred → World → Prop) → Prop) (K : Exit → Fr → List Deferred → World → Prop) : Nat → Fr → List Deferred → World → Prop
  | 0, _, _, _ => False
  | m + 1, ρ, ds, w => D ρ ds w (fun e ρ' ds' w' => match e with | .normal => LN D K m ρ' ds' w' | e => K e ρ' ds' w')
/-- A round's end: less is left to do. -/
inductive NxtI (I : Nat → Fr → List Deferred → World → Prop) (m : Nat) (ρ' : Fr) (ds' : List Deferred) (w' : World) : Prop
  | mk (m' : Nat) (hm : m' < m) (ρ'' : Fr) (he : FrEq ρ' ρ'') (hI : I m' ρ'' ds' w')
inductive LOOP (D : Fr → List Deferred → World → (Exit → Fr → List Deferred → World → Prop) → Prop)
    (ρ : Fr) (ds : List Deferred) (w : World) (K : Exit → Fr → List Deferred → World → Prop) : Prop
  | mk (I : Nat → Fr → List Deferred → World → Prop) (m : Nat) (h0 : ∃ ρ', FrEq ρ ρ' ∧ I m ρ' ds w)
      (round : ∀ m ρ ds w, I m ρ ds w → D ρ ds w (fun e ρ' ds' w' => match e with | .normal => NxtI I m ρ' ds' w' | e => K e ρ' ds' w'))
  | rounds (m : Nat) (h : LN D K m ρ ds w)

def cellsOf : Value → List Value
  | .agg cs => cs.toList
  | v => [v]
def setAt : List Value → Nat → List Value → List Value
  | [], _, _ => []
  | _ :: r, 0, v :: vs => v :: setAt r 0 vs
  | x :: r, 0, [] => x :: r
  | x :: r, i + 1, vs => x :: setAt r i vs
def fillL (place : Nat → Option (Nat × Nat)) (cs : List Value) : List (Nat × Value) → Option (List Value)
  | [] => some cs
  | (i, v) :: rest => match place i with
    | none => none
    | some (off, size) => match Nat.beq (cellsOf v).length size && Nat.ble (off + size) cs.length with
      | true => fillL place (setAt cs off (cellsOf v)) rest
      | false => none
def nth {α : Type} (l : List α) : Nat → Option α := List.rec (motive := fun _ => Nat → Option α) (fun _ => none) (fun a _ ih i => Nat.rec (motive := fun _ => Option α) (some a) (fun m _ => ih m) i) l
theorem nth_nil {α : Type} (i : Nat) : nth ([] : List α) i = none := rfl
theorem nth_zero {α : Type} (a : α) (r : List α) : nth (a :: r) 0 = some a := rfl
theorem nth_succ {α : Type} (a : α) (r : List α) (i : Nat) : nth (a :: r) (i + 1) = nth r i := rfl
def plc (fs : List (Nat × Nat × Nat)) (i : Nat) : Option (Nat × Nat) := match nth fs i with | some (off, sz, _) => some (off, sz) | none => none
def cmpOps : BinOp → Nat
  | .eql => 1 | .neq => 2 | .lss => 3 | .leq => 4 | .gtr => 5 | .geq => 6
  | .shl => 7 | .shr => 7 | .add => 8 | .sub => 8 | .mul => 8 | .quo => 8 | .rem => 8 | .and => 8 | .or => 8 | .xor => 8 | .andNot => 8

/-- What a binary operation on two values comes to; else its run is shown by hand. -/
def dBin (op : BinOp) (a b : Value) (K : Value → Prop) (R : Prop) : Prop :=
  match a, b with
  | .int k x, .int l y => (match cmpOps op, Nat.beq (ikn k) (ikn l) with
    | 7, _ => ART op k x y (fun r => K (.int k r))
    | 8, true => ART op k x y (fun r => K (.int k r))
    | 1, true => CEq x y (fun t => K (.bool t))
    | 2, true => CEq x y (fun t => K (.bool (!t)))
    | 3, true => CLt x y (fun t => K (.bool t))
    | 4, true => CLt y x (fun t => K (.bool (!t)))
    | 5, true => CLt y x (fun t => K (.bool t))
    | 6, true => CLt x y (fun t => K (.bool (!t)))
    | _, _ => False)
  | _, _ => R

def isSl : TK → Bool | .slice .. => true | _ => false
def isPt : TK → Bool | .ptr .. => true | _ => false
def isMp : TK → Bool | .map .. => true | _ => false
def isBo : TK → Bool | .bool => true | _ => false
def isIf : TK → Bool | .iface => true | _ => false
def inTau (t : Nat) : Bool := Nat.blt t tauN

def dEq (t : Nat) (a b : Value) (K : Bool → Prop) (R : Prop) : Prop :=
  match inTau t, (tau t).k, a, b with
  | true, .ptr _, .pointer (some _), .pointer none => K false
  | true, .ptr _, .pointer none, .pointer (some _) => K false
  | true, .ptr _, .pointer none, .pointer none => K true
  | true, .slice .., .slice none _ _, .slice none _ _ => K true
  | true, .slice .., .slice (some _) _ _, .slice none _ _ => K false
  | true, .map .., .map (some _), .map none => K false
  | true, .bool, .bool x, .bool y => K (x == y)
  | _, _, _, _ => R

/-! A value is brought to its form before it is put down -/
def f0 (v : Value) (K : Value → Prop) : Prop := match v with
  | .int k n => K (.int k n)
  | .bool b => K (.bool b)
  | .pointer a => K (.pointer a)
  | .slice a n c => K (.slice a n c)
  | .float k b => K (.float k b)
  | .map r => K (.map r)
  | v => K v
theorem f0_eq (v : Value) (K : Value → Prop) : f0 v K = K v := by cases v <;> rfl
def fL (f : Value → (Value → Prop) → Prop) (l : List Value) : (List Value → Prop) → Prop :=
  List.rec (motive := fun _ => (List Value → Prop) → Prop) (fun K => K []) (fun v _ ih K => f v fun v => ih fun r => K (v :: r)) l
theorem fL_cons (f : Value → (Value → Prop) → Prop) (v : Value) (r : List Value) (K : List Value → Prop) : fL f (v :: r) K = f v fun v => fL f r fun r => K (v :: r) := rfl
theorem fL_eq {f : Value → (Value → Prop) → Prop} (hf : ∀ v K, f v K = K v) : ∀ (l : List Value) (K : List Value → Prop), fL f l K = K l
  | [], K => rfl
  | v :: r, K => by simp only [fL_cons, hf, fL_eq hf r]
def short {α : Type} : Nat → List α → Bool
  | _, [] => true
  | 0, _ => false
  | n + 1, _ :: r => short n r
def f1 (v : Value) (K : Value → Prop) : Prop := match v with
  | .agg cs => (match short 12 cs.toList with | true => fL f0 cs.toList fun l => K (.agg l.toArray) | false => K (.agg cs))
  | .iface t v => f0 v fun v => K (.iface t v)
  | v => f0 v K
theorem f1_eq (v : Value) (K : Value → Prop) : f1 v K = K v := by
  unfold f1
  split
  · split
    · rw [fL_eq f0_eq]
    · rfl
  · rw [f0_eq]
  · rw [f0_eq]
def f2 (v : Value) (K : Value → Prop) : Prop := match v with
  | .tuple cs => fL f1 cs.toList fun l => K (.tuple l.toArray)
  | v => f1 v K
theorem f2_eq (v : Value) (K : Value → Prop) : f2 v K = K v := by
  unfold f2
  split
  · rw [fL_eq f1_eq]
  · rw [f1_eq]

def dOpU (op : Op) (ty : TypeId) (ρ : Fr) (w : World) (K : Value → World → Prop) (X : List PanicEntry → World → Prop) : Prop :=
  match op with
  | .move x => K (ρ.ev x) w
  | .assign x => K (ρ.ev x) w
  | .pick c a b => (match ρ.ev c with | .bool true => K (ρ.ev a) w | .bool false => K (ρ.ev b) w | _ => False)
  | .nilCheck x => (match ρ.ev x with
    | .pointer (some a) => K (.pointer (some a)) w
    | .func (.func f) a b => K (.func (.func f) a b) w
    | _ => False)
  | .fieldAddr s x f => (match inTau s, (tau s).k, ρ.ev x with
    | true, .struct fs, .pointer (some ⟨b, o, none⟩) => (match nth fs f with
      | some (off, sz, _) => (match Nat.beq sz 0 with | true => False | false => K (.pointer (some ⟨b, o + off, none⟩)) w)
      | none => False)
    | _, _, _ => False)
  | .indexAddr t x i => (match inTau t, (tau t).k, ρ.ev x, ρ.ev i with
    | true, .slice _ esz _, .slice (some ⟨b, o, none⟩) n _, .int _ i => BD i n esz o (fun o' => K (.pointer (some ⟨b, o', none⟩)) w)
    | true, .arr n _ esz, .pointer (some ⟨b, o, none⟩), .int _ i => BD i n esz o (fun o' => K (.pointer (some ⟨b, o', none⟩)) w)
    | _, _, _, _ => RUN op ty [ρ.ev x, ρ.ev i] w K X)
  | .binOp o t x y _ => dBin o (ρ.ev x) (ρ.ev y) (fun v => K v w) (match o with
      | .eql => dEq t (ρ.ev x) (ρ.ev y) (fun b => K (.bool b) w) (RUN op ty [ρ.ev x, ρ.ev y] w K X)
      | .neq => dEq t (ρ.ev x) (ρ.ev y) (fun b => K (.bool (!b)) w) (RUN op ty [ρ.ev x, ρ.ev y] w K X)
      | _ => RUN op ty [ρ.ev x, ρ.ev y] w K X)
  | .unOp .not _ x => (match ρ.ev x with | .bool b => K (.bool (!b)) w | _ => False)
  | .unOp _ _ x => RUN op ty [ρ.ev x] w K X
  | .convert s d x => (match inTau s, inTau d, (tau d).k, (tau s).k, ρ.ev x with
    | true, true, .int k, .int _, .int _ n => CVI k n (fun r => K (.int k r) w)
    | _, _, _, _, v => RUN op ty [v] w K X)
  | .makeInterface t x => (match inTau t, (tau t).k with
    | true, .iface => False
    | true, .other => False
    | true, _ => K (.iface t (ρ.ev x)) w
    | _, _ => False)
  | .makeFunc fn a c => K (.func fn (ρ.evs a.toList).toArray (ρ.evs c.toList).toArray) w
  | .build t ps => (match inTau t, (tau t).k, (tau t).zero with
    | true, .struct fs, some z => (match fillL (plc fs) z (ρ.evp ps.toList) with
      | some cs => K (.agg cs.toArray) w
      | none => False)
    | _, _, _ => RUN op ty (ρ.evp ps.toList |>.map (·.2)) w K X)
  | .field t x f => (match inTau t, (tau t).k, ρ.ev x with
    | true, .struct fs, .agg cs => (match nth fs f with
      | some (off, _, u) => (match inTau u, (tau u).agg, nth cs.toList off with
        | true, false, some v => (match (tau u).k with | .other => False | _ => K v w)
        | _, _, _ => False)
      | none => False)
    | _, _, _ => False)
  | .extract x i => (match ρ.ev x with | .tuple vs => (match nth vs.toList i with | some v => K v w | none => False) | _ => False)
  | .call c => (match c.callee with
    | .value f => (match ρ.ev f with
      | .func (.func g) first cap => CALL g (first.toList ++ ρ.evs c.args.toList ++ cap.toList) w K X
      | _ => False)
    | .invoke r name => (match ρ.ev r with
      | .iface t v => INV t v name (ρ.evs c.args.toList) w K X
      | _ => False)
    | .builtin .len => (match ρ.evs c.args.toList, c.argTypes.toList with
      | [.slice b n c'], [t] => (match inTau t, isSl (tau t).k with | true, true => LEN n (fun r => K (.int .i64 r) w) | _, _ => RUN op ty [.slice b n c'] w K X)
      | vs, _ => RUN op ty vs w K X)
    | .builtin _ => RUN op ty (ρ.evs c.args.toList) w K X)
  | .panic x => (match ρ.ev x with | .iface t v => X [{ v := .iface t v, recovered := false }] w | _ => False)
  | .alloc _ => RUN op ty [] w K X
  | .box _ x => RUN op ty [ρ.ev x] w K X
  | .buildSlice _ _ ps => RUN op ty (ρ.evs (ps.toList.map (·.2))) w K X
  | .load _ x => RUN op ty [ρ.ev x] w K X
  | .store _ x y => RUN op ty [ρ.ev x, ρ.ev y] w K X
  | .makeMap _ none => RUN op ty [] w K X
  | .makeSlice _ l c => RUN op ty [ρ.ev l, ρ.ev c] w K X
  | .slice _ x lo hi none => RUN op ty (ρ.ev x :: (ρ.evs lo.toList ++ ρ.evs hi.toList)) w K X
  | .index _ x i => RUN op ty [ρ.ev x, ρ.ev i] w K X
  | .lookup _ x i _ => RUN op ty [ρ.ev x, ρ.ev i] w K X
  | .mapUpdate _ m k x => RUN op ty [ρ.ev m, ρ.ev k, ρ.ev x] w K X
  | .insert _ m k x => RUN op ty [ρ.ev m, ρ.ev k, ρ.ev x] w K X
  | .range _ x => RUN op ty [ρ.ev x] w K X
  | .next x _ => RUN op ty [ρ.ev x] w K X
  | .entry x => RUN op ty [ρ.ev x] w K X
  | .typeAssert x _ _ _ => RUN op ty [ρ.ev x] w K X
  | _ => False

def RUNF (op : Op) (ty : TypeId) (vs : List Value) (w : World) (K : Value → World → Prop) (X : List PanicEntry → World → Prop) : Prop := fL f1 vs fun vs => RUN op ty vs w K X
theorem RUNF_eq (op : Op) (ty : TypeId) (vs : List Value) (w : World) (K : Value → World → Prop) (X : List PanicEntry → World → Prop) : RUNF op ty vs w K X = RUN op ty vs w K X := fL_eq f1_eq _ _
def CALLF (f : Nat) (args : List Value) (w : World) (K : Value → World → Prop) (X : List PanicEntry → World → Prop) : Prop := fL f1 args fun vs => CALL f vs w K X
theorem CALLF_eq (f : Nat) (args : List Value) (w : World) (K : Value → World → Prop) (X : List PanicEntry → World → Prop) : CALLF f args w K X = CALL f args w K X := fL_eq f1_eq _ _
def INVF (t : Nat) (v : Value) (name : String) (args : List Value) (w : World) (K : Value → World → Prop) (X : List PanicEntry → World → Prop) : Prop := fL f1 args fun vs => INV t v name vs w K X
theorem INVF_eq (t : Nat) (v : Value) (name : String) (args : List Value) (w : World) (K : Value → World → Prop) (X : List PanicEntry → World → Prop) : INVF t v name args w K X = INV t v name args w K X := fL_eq f1_eq _ _
def dOp (op : Op) (ty : TypeId) (ρ : Fr) (w : World) (K : Value → World → Prop) (X : List PanicEntry → World → Prop) : Prop :=
  match op with
  | .move x => K (ρ.ev x) w
  | .assign x => K (ρ.ev x) w
  | .pick c a b => (match ρ.ev c with | .bool true => K (ρ.ev a) w | .bool false => K (ρ.ev b) w | _ => False)
  | .nilCheck x => (match ρ.ev x with
    | .pointer (some a) => K (.pointer (some a)) w
    | .func (.func f) a b => K (.func (.func f) a b) w
    | _ => False)
  | .fieldAddr s x f => (match inTau s, (tau s).k, ρ.ev x with
    | true, .struct fs, .pointer (some ⟨b, o, none⟩) => (match nth fs f with
      | some (off, sz, _) => (match Nat.beq sz 0 with | true => False | false => K (.pointer (some ⟨b, o + off, none⟩)) w)
      | none => False)
    | _, _, _ => False)
  | .indexAddr t x i => (match inTau t, (tau t).k, ρ.ev x, ρ.ev i with
    | true, .slice _ esz _, .slice (some ⟨b, o, none⟩) n _, .int _ i => BD i n esz o (fun o' => K (.pointer (some ⟨b, o', none⟩)) w)
    | true, .arr n _ esz, .pointer (some ⟨b, o, none⟩), .int _ i => BD i n esz o (fun o' => K (.pointer (some ⟨b, o', none⟩)) w)
    | _, _, _, _ => RUNF op ty [ρ.ev x, ρ.ev i] w K X)
  | .binOp o t x y _ => dBin o (ρ.ev x) (ρ.ev y) (fun v => K v w) (match o with
      | .eql => dEq t (ρ.ev x) (ρ.ev y) (fun b => K (.bool b) w) (RUNF op ty [ρ.ev x, ρ.ev y] w K X)
      | .neq => dEq t (ρ.ev x) (ρ.ev y) (fun b => K (.bool (!b)) w) (RUNF op ty [ρ.ev x, ρ.ev y] w K X)
      | _ => RUNF op ty [ρ.ev x, ρ.ev y] w K X)
  | .unOp .not _ x => (match ρ.ev x with | .bool b => K (.bool (!b)) w | _ => False)
  | .unOp _ _ x => RUNF op ty [ρ.ev x] w K X
  | .convert s d x => (match inTau s, inTau d, (tau d).k, (tau s).k, ρ.ev x with
    | true, true, .int k, .int _, .int _ n => CVI k n (fun r => K (.int k r) w)
    | _, _, _, _, v => RUNF op ty [v] w K X)
  | .makeInterface t x => (match inTau t, (tau t).k with
    | true, .iface => False
    | true, .other => False
    | true, _ => K (.iface t (ρ.ev x)) w
    | _, _ => False)
  | .makeFunc fn a c => K (.func fn (ρ.evs a.toList).toArray (ρ.evs c.toList).toArray) w
  | .build t ps => (match inTau t, (tau t).k, (tau t).zero with
    | true, .struct fs, some z => (match fillL (plc fs) z (ρ.evp ps.toList) with
      | some cs => K (.agg cs.toArray) w
      | none => False)
    | _, _, _ => RUNF op ty (ρ.evp ps.toList |>.map (·.2)) w K X)
  | .field t x f => (match inTau t, (tau t).k, ρ.ev x with
    | true, .struct fs, .agg cs => (match nth fs f with
      | some (off, _, u) => (match inTau u, (tau u).agg, nth cs.toList off with
        | true, false, some v => (match (tau u).k with | .other => False | _ => K v w)
        | _, _, _ => False)
      | none => False)
    | _, _, _ => False)
  | .extract x i => (match ρ.ev x with | .tuple vs => (match nth vs.toList i with | some v => K v w | none => False) | _ => False)
  | .call c => (match c.callee with
    | .value f => (match ρ.ev f with
      | .func (.func g) first cap => CALLF g (first.toList ++ ρ.evs c.args.toList ++ cap.toList) w K X
      | _ => False)
    | .invoke r name => (match ρ.ev r with
      | .iface t v => INVF t v name (ρ.evs c.args.toList) w K X
      | _ => False)
    | .builtin .len => (match ρ.evs c.args.toList, c.argTypes.toList with
      | [.slice b n c'], [t] => (match inTau t, isSl (tau t).k with | true, true => LEN n (fun r => K (.int .i64 r) w) | _, _ => RUNF op ty [.slice b n c'] w K X)
      | vs, _ => RUNF op ty vs w K X)
    | .builtin _ => RUNF op ty (ρ.evs c.args.toList) w K X)
  | .panic x => (match ρ.ev x with | .iface t v => X [{ v := .iface t v, recovered := false }] w | _ => False)
  | .alloc _ => RUNF op ty [] w K X
  | .box _ x => RUNF op ty [ρ.ev x] w K X
  | .buildSlice _ _ ps => RUNF op ty (ρ.evs (ps.toList.map (·.2))) w K X
  | .load _ x => RUNF op ty [ρ.ev x] w K X
  | .store _ x y => RUNF op ty [ρ.ev x, ρ.ev y] w K X
  | .makeMap _ none => RUNF op ty [] w K X
  | .makeSlice _ l c => RUNF op ty [ρ.ev l, ρ.ev c] w K X
  | .slice _ x lo hi none => RUNF op ty (ρ.ev x :: (ρ.evs lo.toList ++ ρ.evs hi.toList)) w K X
  | .index _ x i => RUNF op ty [ρ.ev x, ρ.ev i] w K X
  | .lookup _ x i _ => RUNF op ty [ρ.ev x, ρ.ev i] w K X
  | .mapUpdate _ m k x => RUNF op ty [ρ.ev m, ρ.ev k, ρ.ev x] w K X
  | .insert _ m k x => RUNF op ty [ρ.ev m, ρ.ev k, ρ.ev x] w K X
  | .range _ x => RUNF op ty [ρ.ev x] w K X
  | .next x _ => RUNF op ty [ρ.ev x] w K X
  | .entry x => RUNF op ty [ρ.ev x] w K X
  | .typeAssert x _ _ _ => RUNF op ty [ρ.ev x] w K X
  | _ => False

theorem dOp_eq (op : Op) (ty : TypeId) (ρ : Fr) (w : World) (K : Value → World → Prop) (X : List PanicEntry → World → Prop) : dOp op ty ρ w K X = dOpU op ty ρ w K X := by
  unfold dOp dOpU
  simp only [RUNF_eq, CALLF_eq, INVF_eq]

def wantedF (all : List Oper) (ρ : Fr) : Option (Nat × Bool) → Option Bool
  | none => some true
  | some (j, b) => match nth all j with
    | some oj => (match oj.dst with
      | some d => (match ρ.get d with | .bool x => some (x == b) | .tuple _ => some false | _ => none)
      | none => none)
    | none => none
/-- One operation, and what follows it. -/
def dOpsF (n : Nat) (all : List Oper) (o : Oper) (_ : List Oper) (ih : Fr → List Deferred → World → (Exit → Fr → List Deferred → World → Prop) → Prop) (ρ : Fr) (ds : List Deferred) (w : World) (K : Exit → Fr → List Deferred → World → Prop) : Prop :=
  match wantedF all ρ o.guard with
    | some true => (match o.op with
      | .defer c => (match c.callee with
        | .value f => (match ρ.ev f with
          | .func fn first cap => ih (ρ.put n o.dst undef) ({ target := .fn fn cap, args := (first.toList ++ ρ.evs c.args.toList).toArray } :: ds) w K
          | _ => False)
        | _ => False)
      | op => dOp op o.type ρ w (fun v w' => f2 v fun v => ih (ρ.put n o.dst v) ds w' K) (fun c w' => K (.panic c) ρ ds w'))
    | some false => ih (ρ.put n o.dst undef) ds w K
    | none => False
def dOps (n : Nat) (all : List Oper) (l : List Oper) : Fr → List Deferred → World → (Exit → Fr → List Deferred → World → Prop) → Prop :=
  List.rec (motive := fun _ => Fr → List Deferred → World → (Exit → Fr → List Deferred → World → Prop) → Prop) (fun ρ ds w K => K .normal ρ ds w) (dOpsF n all) l
theorem dOps_nil (n : Nat) (all : List Oper) (ρ : Fr) (ds : List Deferred) (w : World) (K : Exit → Fr → List Deferred → World → Prop) : dOps n all [] ρ ds w K = K .normal ρ ds w := rfl
theorem dOps_cons (n : Nat) (all : List Oper) (o : Oper) (rest : List Oper) (ρ : Fr) (ds : List Deferred) (w : World) (K : Exit → Fr → List Deferred → World → Prop) : dOps n all (o :: rest) ρ ds w K = dOpsF n all o rest (dOps n all rest) ρ ds w K := rfl

def dSeq (da db : Fr → List Deferred → World → (Exit → Fr → List Deferred → World → Prop) → Prop) (ρ : Fr) (ds : List Deferred) (w : World) (K : Exit → Fr → List Deferred → World → Prop) : Prop :=
  da ρ ds w (fun e ρ' ds' w' => match e with | .normal => db ρ' ds' w' K | e => K e ρ' ds' w')
def dCond (c : Operand) (dx dy : Fr → List Deferred → World → (Exit → Fr → List Deferred → World → Prop) → Prop) (ρ : Fr) (ds : List Deferred) (w : World) (K : Exit → Fr → List Deferred → World → Prop) : Prop :=
  match ρ.ev c with | .bool true => dx ρ ds w K | .bool false => dy ρ ds w K | _ => False
def dBlock (i : Nat) (db : Fr → List Deferred → World → (Exit → Fr → List Deferred → World → Prop) → Prop) (ρ : Fr) (ds : List Deferred) (w : World) (K : Exit → Fr → List Deferred → World → Prop) : Prop :=
  db ρ ds w (fun e ρ' ds' w' => match e with | .exit j => (match Nat.beq j i with | true => K .normal ρ' ds' w' | false => K (.exit j) ρ' ds' w') | e => K e ρ' ds' w')
def dRegion (n id : Nat) (ops : Array Oper) (b : Bool) (ρ : Fr) (ds : List Deferred) (w : World) (K : Exit → Fr → List Deferred → World → Prop) : Prop :=
  match b with | false => dOps n ops.toList ops.toList ρ ds w K | true => DRAW n id ops ρ ds w K
def den (n : Nat) (c : Code) : Fr → List Deferred → World → (Exit → Fr → List Deferred → World → Prop) → Prop :=
  Code.rec (motive := fun _ => Fr → List Deferred → World → (Exit → Fr → List Deferred → World → Prop) → Prop)
    (fun ρ ds w K => K .normal ρ ds w)
    (fun id ops b => dRegion n id ops b)
    (fun _ _ da db => dSeq da db)
    (fun c _ _ dx dy => dCond c dx dy)
    (fun i _ db => dBlock i db)
    (fun _ db ρ ds w K => LOOP db ρ ds w K)
    (fun _ _ _ _ _ _ _ _ _ _ => False)
    (fun i ρ ds w K => K (.exit i) ρ ds w)
    (fun _ _ _ _ _ _ => False)
    (fun _ ρ ds w K => K .normal ρ ds w)
    (fun _ _ _ _ _ => False)
    (fun ρ ds w K => K .ret ρ ds w)
    (fun _ _ _ _ _ => False) c

end Go.E
end
