/- Printed by plans.py: the orders of the regions that draw. -/
import Derived.Test.YtokeanadhihlfaaVLoop
set_option linter.all false
namespace Go.Proofs.Ytokeanadhihlfaa.V
def plan5 : Nat → Option Plan
  | 21 => some ⟨(.node [0, 1, 2, 3, 4, 5, 6, 7, 8, 9, 10, 11, 12, 13, 14] (.cons 15 true (.node [16, 17, 18] (.cons 19 false (.node [] .nil) .nil)) .nil)), [(15, true), (19, false)], #[0, 0, 0, 0, 12, 28, 60, 0, 0, 0, 768, 1792, 3840, 7936, 16128, 32640, 65532, 131071, 262143, 524287], [11]⟩
  | 23 => some ⟨(.node [0, 1, 2, 4, 5, 6, 7] (.cons 3 true (.node [] (.cons 8 true (.node [9] .nil) .nil)) .nil)), [(3, true), (8, true)], #[0, 0, 3, 7, 0, 0, 32, 112, 255, 511], []⟩
  | 25 => some ⟨(.node [0, 1, 2, 3, 5, 6, 7] (.cons 4 true (.node [] (.cons 8 true (.node [9] .nil) .nil)) .nil)), [(4, true), (8, true)], #[0, 0, 2, 7, 15, 0, 0, 96, 255, 511], []⟩
  | _ => none
def plan6 : Nat → Option Plan
  | 6 => some ⟨(.node [0, 1, 2, 3, 5] (.cons 4 true (.node [] (.cons 6 true (.node [7, 8, 9] (.cons 10 false (.node [] .nil) .nil)) .nil)) (.cons 6 true (.node [] (.cons 4 true (.node [7, 8, 9] (.cons 10 false (.node [] .nil) .nil)) .nil)) .nil))), [(4, true), (6, true), (10, false)], #[0, 0, 2, 6, 14, 0, 32, 126, 254, 511, 1023], [5]⟩
  | _ => none
def plan8 : Nat → Option Plan
  | 17 => some ⟨(.node [0, 1, 2, 3, 4, 5, 6, 7, 8, 9, 10, 11, 12, 13, 14, 15, 16, 17, 18, 19, 20, 21, 22, 23, 24, 25, 26, 27, 28, 29, 30, 31, 32, 33, 34, 35, 36, 37, 38, 39, 40, 41, 42, 43, 44, 45, 46, 47, 48, 49, 50, 51, 52, 53] (.cons 54 true (.node [55, 56] .nil) .nil)), [(54, true)], #[0, 1, 0, 4, 15, 31, 63, 127, 63, 319, 831, 2047, 4095, 63, 8255, 24639, 65535, 131071, 262143, 524287, 1048575, 524287, 2621439, 8388607, 16777215, 33554431, 67108863, 134217727, 67108863, 335544319, 1073741823, 2147483647, 4294967295, 8589934591, 17179869183, 8589934591, 42949672959, 137438953471, 274877906943, 549755813887, 1099511627775, 2199023255551, 1099511627775, 5497558138879, 17592186044415, 35184372088831, 70368744177663, 140737488355327, 281474976710655, 140737488355327, 703687441776639, 2251799813685247, 4503599627370495, 9007199254740991, 18014398509481983, 36028797018963967, 72057594037927935], []⟩
  | _ => none
def plan10 : Nat → Option Plan
  | 31 => some ⟨(.node [0, 1, 2, 3, 4] (.cons 5 true (.node [] (.cons 6 true (.node [7] (.cons 8 true (.node [] (.cons 9 false (.node [] .nil) .nil)) .nil)) (.cons 8 true (.node [] (.cons 6 true (.node [7] (.cons 9 false (.node [] .nil) .nil)) .nil)) .nil))) (.cons 8 true (.node [] (.cons 5 true (.node [] (.cons 6 true (.node [7] (.cons 9 false (.node [] .nil) .nil)) .nil)) .nil)) .nil))), [(5, true), (6, true), (8, true), (9, false)], #[0, 1, 0, 4, 0, 16, 48, 127, 0, 511], [3]⟩
  | _ => none
def plan12 : Nat → Option Plan
  | 11 => some ⟨(.node [0, 1, 2, 3, 4, 5] (.cons 6 true (.node [7, 8, 9] (.cons 10 true (.node [] (.cons 11 true (.node [] (.cons 12 true (.node [] (.cons 13 false (.node [] .nil) .nil)) .nil)) .nil)) (.cons 11 true (.node [] (.cons 10 true (.node [] (.cons 12 true (.node [] (.cons 13 false (.node [] .nil) .nil)) .nil)) .nil)) .nil))) (.cons 10 true (.node [] (.cons 6 true (.node [7, 8, 9] (.cons 11 true (.node [] (.cons 12 true (.node [] (.cons 13 false (.node [] .nil) .nil)) .nil)) .nil)) (.cons 11 true (.node [] (.cons 6 true (.node [7, 8, 9] (.cons 12 true (.node [] (.cons 13 false (.node [] .nil) .nil)) .nil)) .nil)) .nil))) (.cons 11 true (.node [] (.cons 6 true (.node [7, 8, 9] (.cons 10 true (.node [] (.cons 12 true (.node [] (.cons 13 false (.node [] .nil) .nil)) .nil)) .nil)) (.cons 10 true (.node [] (.cons 6 true (.node [7, 8, 9] (.cons 12 true (.node [] (.cons 13 false (.node [] .nil) .nil)) .nil)) .nil)) .nil))) .nil)))), [(6, true), (10, true), (11, true), (12, true), (13, false)], #[0, 0, 0, 0, 12, 28, 63, 127, 255, 255, 0, 0, 3583, 8191], []⟩
  | 17 => some ⟨(.node [0, 1, 2] (.cons 3 true (.node [4] (.cons 5 true (.node [6, 7, 8] (.cons 9 true (.node [] (.cons 10 false (.node [] .nil) .nil)) .nil)) .nil)) .nil)), [(3, true), (5, true), (9, true), (10, false)], #[0, 0, 0, 4, 12, 31, 63, 127, 127, 255, 1023], [15]⟩
  | 18 => some ⟨(.node [0, 1, 2, 3, 4, 5, 6, 7, 8, 9, 10, 11, 12, 13, 14, 15, 16, 17, 18, 19, 20, 21, 22, 23, 24, 25, 26, 27, 28, 29, 30] (.cons 31 true (.node [32, 33, 34] .nil) .nil)), [(31, true)], #[0, 1, 3, 7, 15, 31, 63, 127, 255, 511, 1023, 2047, 4095, 8191, 16383, 32767, 65535, 131071, 262143, 524287, 1048575, 2097151, 4194303, 8388607, 16777215, 33554431, 67108863, 134217727, 268435455, 536870911, 1073741823, 33554431, 2181038079, 8589934591, 17179869183], []⟩
  | 20 => some ⟨(.node [0, 1, 2, 4] (.cons 3 true (.node [] (.cons 5 true (.node [6] (.cons 7 true (.node [8, 9, 10] (.cons 11 true (.node [] (.cons 12 false (.node [] .nil) .nil)) .nil)) .nil)) .nil)) .nil)), [(3, true), (5, true), (7, true), (11, true), (12, false)], #[0, 0, 0, 4, 0, 28, 60, 127, 255, 511, 511, 1023, 4095], [12, 15]⟩
  | _ => none
def plan13 : Nat → Option Plan
  | 19 => some ⟨(.node [0, 1, 2, 3] .nil), [], #[0, 1, 0, 7], []⟩
  | _ => none
def plan14 : Nat → Option Plan
  | 10 => some ⟨(.node [0, 1, 2, 3, 4, 5, 6, 7, 8, 9, 10, 11, 12, 13, 14, 15, 16, 17, 18] (.cons 19 true (.node [20, 21, 22, 23, 24, 25, 26, 27] .nil) .nil)), [(19, true)], #[0, 1, 3, 7, 15, 31, 63, 127, 255, 511, 1023, 2047, 4095, 8191, 16383, 32767, 65535, 131071, 262143, 8191, 532479, 2097151, 4194303, 8388607, 16777215, 33554431, 67108863, 134217727], []⟩
  | 13 => some ⟨(.node [0, 1, 2, 3, 4, 5, 6, 7, 8, 9, 10, 11, 12, 13, 14, 15, 16, 17, 18, 19, 20, 21, 22, 23, 24] (.cons 25 true (.node [26, 27, 28, 29] (.cons 30 true (.node [31, 32] .nil) .nil)) .nil)), [(25, true), (30, true)], #[0, 1, 3, 7, 15, 31, 63, 127, 255, 511, 1023, 2047, 4095, 8191, 16383, 32767, 65535, 131071, 262143, 524287, 1048575, 2097151, 4194303, 8388607, 262143, 17039359, 50593791, 134217727, 268435455, 536870911, 1073741823, 2147483647, 4294967295], []⟩
  | _ => none
def plan15 : Nat → Option Plan
  | 16 => some ⟨(.node [0, 1, 2, 3] (.cons 4 true (.node [] (.cons 5 true (.node [6] (.cons 7 false (.node [] .nil) .nil)) .nil)) .nil)), [(4, true), (5, true), (7, false)], #[0, 0, 2, 0, 8, 24, 63, 127], [7]⟩
  | 21 => some ⟨(.node [0, 1] (.cons 2 true (.node [] (.cons 3 false (.node [] .nil) .nil)) .nil)), [(2, true), (3, false)], #[0, 0, 1, 7], [8]⟩
  | _ => none
def plan16 : Nat → Option Plan
  | 15 => some ⟨(.node [0, 1, 3] (.cons 2 true (.node [] (.cons 4 true (.node [5] (.cons 6 true (.node [7, 8, 9, 10, 11] (.cons 12 true (.node [13] .nil) .nil)) .nil)) .nil)) .nil)), [(2, true), (4, true), (6, true), (12, true)], #[0, 0, 2, 0, 14, 30, 63, 127, 255, 255, 255, 255, 511, 8191], [14, 15]⟩
  | 20 => some ⟨(.node [0, 1, 2, 3, 4] (.cons 5 true (.node [6, 7, 8, 9, 10] (.cons 11 true (.node [12, 13, 14] .nil) .nil)) .nil)), [(5, true), (11, true)], #[0, 0, 0, 6, 14, 31, 63, 127, 127, 127, 127, 255, 2559, 7167, 16383], [15]⟩
  | 23 => some ⟨(.node [0, 1, 2, 3, 4] (.cons 5 true (.node [6, 7, 8, 9, 10] (.cons 11 true (.node [12] .nil) .nil)) .nil)), [(5, true), (11, true)], #[0, 0, 0, 6, 14, 31, 63, 127, 127, 127, 127, 255, 4095], [16]⟩
  | _ => none
def plan23 : Nat → Option Plan
  | 7 => some ⟨(.node [0, 1, 2, 3, 4] .nil), [], #[0, 0, 3, 0, 15], []⟩
  | _ => none
def plan25 : Nat → Option Plan
  | 6 => some ⟨(.node [0, 1, 2, 3, 4, 5, 6, 7] (.cons 8 true (.node [9] .nil) .nil)), [(8, true)], #[0, 0, 3, 7, 0, 0, 48, 112, 255, 511], []⟩
  | _ => none
def plan27 : Nat → Option Plan
  | 1 => some ⟨(.node [0, 1, 2, 3, 4, 5, 6, 7, 8, 9] .nil), [], #[0, 1, 3, 7, 0, 16, 48, 112, 240, 511], []⟩
  | 4 => some ⟨(.node [0, 1, 2, 3, 4, 5, 6, 7, 8, 9, 10, 11] (.cons 12 true (.node [13] .nil) .nil)), [(12, true)], #[0, 1, 3, 7, 0, 16, 48, 112, 240, 511, 1023, 0, 4095, 8191], []⟩
  | _ => none
def plan28 : Nat → Option Plan
  | 17 => some ⟨(.node [0, 1, 2, 3, 4, 5, 6] (.cons 7 true (.node [8, 9] .nil) .nil)), [(7, true)], #[0, 1, 0, 4, 15, 0, 32, 96, 255, 511], []⟩
  | _ => none
def plan29 : Nat → Option Plan
  | 14 => some ⟨(.node [0, 1, 2, 3, 4, 5, 6, 7, 8, 9, 10, 11, 12, 13, 14, 15, 16, 17] .nil), [], #[0, 1, 3, 7, 15, 7, 39, 103, 231, 511, 1023, 2047, 4095, 8191, 4095, 20479, 65535, 131071], []⟩
  | _ => none
def plan31 : Nat → Option Plan
  | 7 => some ⟨(.node [0, 1, 2, 3, 4, 5, 6, 7, 8, 9, 10, 11, 12, 13, 14, 15, 16, 17, 18, 19, 20, 21, 22] (.cons 23 true (.node [] (.cons 24 false (.node [] .nil) .nil)) .nil)), [(23, true), (24, false)], #[0, 1, 3, 7, 15, 0, 32, 96, 224, 480, 1023, 0, 2048, 6144, 14336, 30720, 65535, 0, 131072, 393216, 917504, 2097151, 4194303, 0, 16777215], []⟩
  | 12 => some ⟨(.node [0, 1, 2, 3, 4, 5, 6, 7, 8, 9, 10] (.cons 11 false (.node [] .nil) .nil)), [(11, false)], #[0, 1, 3, 7, 15, 0, 32, 96, 224, 511, 1023, 2047], []⟩
  | _ => none
def plan32 : Nat → Option Plan
  | 7 => some ⟨(.node [0, 1, 2, 3, 4, 5, 6, 7, 8, 9, 10, 11, 12, 13, 14, 15, 16, 17, 18, 19, 20, 21, 22] (.cons 23 true (.node [] (.cons 24 false (.node [] .nil) .nil)) .nil)), [(23, true), (24, false)], #[0, 1, 3, 7, 15, 0, 32, 96, 224, 480, 1023, 0, 2048, 6144, 14336, 30720, 65535, 0, 131072, 393216, 917504, 2097151, 4194303, 0, 16777215], []⟩
  | 12 => some ⟨(.node [0, 1, 2, 3, 4, 5, 6, 7, 8, 9, 10, 11, 12, 13, 14, 15] (.cons 16 true (.node [17] (.cons 18 true (.node [19] (.cons 20 false (.node [] .nil) .nil)) .nil)) .nil)), [(16, true), (18, true), (20, false)], #[0, 1, 3, 7, 15, 0, 32, 96, 224, 480, 0, 1024, 3072, 7168, 16352, 0, 32768, 98335, 229407, 524287, 1048575], [4]⟩
  | _ => none
def plan35 : Nat → Option Plan
  | 1 => some ⟨(.node [1, 5] (.cons 0 true (.node [] (.cons 2 true (.node [3, 4] (.cons 6 true (.node [7, 8] (.cons 9 true (.node [] (.cons 10 false (.node [] .nil) .nil)) .nil)) (.cons 9 true (.node [] (.cons 6 true (.node [7, 8] (.cons 10 false (.node [] .nil) .nil)) .nil)) .nil))) (.cons 9 true (.node [] (.cons 2 true (.node [3, 4] (.cons 6 true (.node [7, 8] (.cons 10 false (.node [] .nil) .nil)) .nil)) .nil)) .nil))) (.cons 2 true (.node [] (.cons 0 true (.node [3, 4] (.cons 6 true (.node [7, 8] (.cons 9 true (.node [] (.cons 10 false (.node [] .nil) .nil)) .nil)) (.cons 9 true (.node [] (.cons 6 true (.node [7, 8] (.cons 10 false (.node [] .nil) .nil)) .nil)) .nil))) (.cons 6 true (.node [7] (.cons 0 true (.node [3, 4, 8] (.cons 9 true (.node [] (.cons 10 false (.node [] .nil) .nil)) .nil)) (.cons 9 true (.node [] (.cons 0 true (.node [3, 4, 8] (.cons 10 false (.node [] .nil) .nil)) .nil)) .nil))) (.cons 9 true (.node [] (.cons 0 true (.node [3, 4] (.cons 6 true (.node [7, 8] (.cons 10 false (.node [] .nil) .nil)) .nil)) (.cons 6 true (.node [7] (.cons 0 true (.node [3, 4, 8] (.cons 10 false (.node [] .nil) .nil)) .nil)) .nil))) .nil)))) (.cons 9 true (.node [] (.cons 0 true (.node [] (.cons 2 true (.node [3, 4] (.cons 6 true (.node [7, 8] (.cons 10 false (.node [] .nil) .nil)) .nil)) .nil)) (.cons 2 true (.node [] (.cons 0 true (.node [3, 4] (.cons 6 true (.node [7, 8] (.cons 10 false (.node [] .nil) .nil)) .nil)) (.cons 6 true (.node [7] (.cons 0 true (.node [3, 4, 8] (.cons 10 false (.node [] .nil) .nil)) .nil)) .nil))) .nil))) .nil)))), [(0, true), (2, true), (6, true), (9, true), (10, false)], #[0, 0, 2, 7, 15, 0, 38, 102, 255, 0, 1023], [0]⟩
  | _ => none
def plan37 : Nat → Option Plan
  | 1 => some ⟨(.node [0, 1, 2, 3, 4, 5, 6, 7, 8, 9, 10] .nil), [], #[0, 1, 3, 7, 0, 16, 48, 112, 240, 511, 1023], []⟩
  | _ => none
def plan40 : Nat → Option Plan
  | 3 => some ⟨(.node [0, 2, 3, 4] (.cons 1 true (.node [] (.cons 5 false (.node [] (.cons 6 false (.node [] (.cons 7 false (.node [] .nil) .nil)) .nil)) .nil)) .nil)), [(1, true), (5, false), (6, false), (7, false)], #[0, 1, 0, 0, 8, 31, 63, 127], []⟩
  | _ => none
def plan41 : Nat → Option Plan
  | 3 => some ⟨(.node [0, 2, 3, 4] (.cons 1 true (.node [] (.cons 5 false (.node [] (.cons 6 false (.node [] (.cons 7 false (.node [] .nil) .nil)) .nil)) .nil)) .nil)), [(1, true), (5, false), (6, false), (7, false)], #[0, 1, 0, 0, 8, 31, 63, 127], []⟩
  | _ => none
def plan42 : Nat → Option Plan
  | 6 => some ⟨(.node [0, 1] (.cons 2 true (.node [] (.cons 3 false (.node [] .nil) .nil)) .nil)), [(2, true), (3, false)], #[0, 0, 1, 7], [6]⟩
  | 12 => some ⟨(.node [0, 1, 2, 3] (.cons 4 true (.node [] (.cons 5 false (.node [] (.cons 6 false (.node [] .nil) .nil)) .nil)) .nil)), [(4, true), (5, false), (6, false)], #[0, 0, 0, 4, 14, 31, 63], [2022]⟩
  | _ => none
def plan43 : Nat → Option Plan
  | 6 => some ⟨(.node [0, 1] (.cons 2 true (.node [] (.cons 3 false (.node [] .nil) .nil)) .nil)), [(2, true), (3, false)], #[0, 0, 1, 7], [6]⟩
  | _ => none
def plan47 : Nat → Option Plan
  | 6 => some ⟨(.node [0, 1, 2, 3, 4, 5, 6, 7, 8, 9, 10, 11, 12, 13, 14] (.cons 15 true (.node [16, 17, 18, 19, 20, 21, 22, 23, 24] .nil) .nil)), [(15, true)], #[0, 1, 3, 7, 15, 31, 63, 127, 255, 511, 1023, 31, 2079, 31, 8223, 30751, 63519, 131071, 262143, 524287, 1048575, 2097151, 1048575, 8388607, 16777215], []⟩
  | _ => none
def plan50 : Nat → Option Plan
  | 11 => some ⟨(.node [0, 1, 2, 3, 4, 5, 6, 7, 8, 9] (.cons 10 true (.node [11] (.cons 12 false (.node [] .nil) .nil)) .nil)), [(10, true), (12, false)], #[0, 1, 0, 4, 0, 16, 0, 64, 0, 256, 960, 2047, 4095], []⟩
  | 16 => some ⟨(.node [0, 1, 3, 4, 5, 6] (.cons 2 true (.node [] (.cons 7 true (.node [8, 9, 10] .nil) .nil)) .nil)), [(2, true), (7, true)], #[0, 1, 3, 0, 8, 0, 32, 127, 255, 511, 1023], [4]⟩
  | _ => none
def plan51 : Nat → Option Plan
  | 6 => some ⟨(.node [0, 1, 2, 3, 4, 5, 6, 7, 8, 9, 10, 11] (.cons 12 false (.node [] .nil) .nil)), [(12, false)], #[0, 1, 0, 4, 0, 16, 0, 0, 128, 384, 960, 2047, 4095], []⟩
  | 10 => some ⟨(.node [0, 1, 3, 4, 5] (.cons 2 true (.node [] (.cons 6 true (.node [7] (.cons 8 false (.node [] .nil) .nil)) .nil)) .nil)), [(2, true), (6, true), (8, false)], #[0, 1, 3, 0, 0, 24, 63, 127, 255], []⟩
  | 14 => some ⟨(.node [0, 1, 3, 4, 5, 6] (.cons 2 true (.node [] (.cons 7 true (.node [8, 9, 10] .nil) .nil)) .nil)), [(2, true), (7, true)], #[0, 1, 3, 0, 8, 0, 32, 7, 159, 511, 1023], [4]⟩
  | _ => none
def plan56 : Nat → Option Plan
  | 11 => some ⟨(.node [0, 1, 2, 3, 4, 5, 6, 7, 8, 9, 10, 11, 12, 13, 14, 15, 16, 17, 18, 19] (.cons 20 true (.node [21] (.cons 22 true (.node [23] (.cons 24 true (.node [25] (.cons 26 false (.node [] .nil) .nil)) .nil)) .nil)) .nil)), [(20, true), (22, true), (24, true), (26, false)], #[0, 0, 0, 0, 0, 16, 48, 112, 0, 256, 768, 1792, 0, 4096, 12288, 28672, 0, 65536, 196608, 241, 524529, 1576947, 3674099, 7929847, 16318455, 33554431, 67108863], [4]⟩
  | 14 => some ⟨(.node [0, 1, 2, 3, 4, 5, 6, 7, 8, 9, 10, 11, 12, 13, 14] (.cons 15 true (.node [16] (.cons 17 true (.node [18] (.cons 19 false (.node [] .nil) .nil)) .nil)) .nil)), [(15, true), (17, true), (19, false)], #[0, 0, 0, 0, 8, 24, 56, 0, 128, 384, 896, 0, 2048, 6144, 121, 16505, 51195, 116731, 262143, 524287], [4]⟩
  | _ => none
def plan57 : Nat → Option Plan
  | 7 => some ⟨(.node [0, 1, 2, 3, 4] (.cons 5 true (.node [6, 7] .nil) .nil)), [(5, true)], #[0, 1, 3, 0, 8, 24, 63, 127], []⟩
  | _ => none
def plan63 : Nat → Option Plan
  | 2 => some ⟨(.node [0, 1] (.cons 2 true (.node [] (.cons 3 false (.node [] .nil) .nil)) .nil)), [(2, true), (3, false)], #[0, 0, 1, 7], [8]⟩
  | 4 => some ⟨(.node [0, 2, 3, 4] (.cons 1 true (.node [] (.cons 5 false (.node [] (.cons 6 false (.node [] (.cons 7 false (.node [] .nil) .nil)) .nil)) .nil)) .nil)), [(1, true), (5, false), (6, false), (7, false)], #[0, 1, 0, 0, 8, 31, 63, 127], []⟩
  | _ => none
def plan64 : Nat → Option Plan
  | 2 => some ⟨(.node [0, 1] (.cons 2 true (.node [] (.cons 3 false (.node [] (.cons 4 false (.node [] .nil) .nil)) .nil)) .nil)), [(2, true), (3, false), (4, false)], #[0, 0, 2, 7, 15], [3000]⟩
  | 4 => some ⟨(.node [0, 1] (.cons 2 true (.node [] (.cons 3 false (.node [] (.cons 4 false (.node [] .nil) .nil)) .nil)) .nil)), [(2, true), (3, false), (4, false)], #[0, 0, 2, 7, 15], [3000]⟩
  | 6 => some ⟨(.node [0, 1] (.cons 2 true (.node [] (.cons 3 false (.node [] (.cons 4 false (.node [] .nil) .nil)) .nil)) .nil)), [(2, true), (3, false), (4, false)], #[0, 0, 2, 7, 15], [3000]⟩
  | 8 => some ⟨(.node [0, 1, 2, 3, 4, 5] (.cons 6 true (.node [] (.cons 7 true (.node [] (.cons 8 false (.node [] (.cons 9 false (.node [] .nil) .nil)) .nil)) .nil)) .nil)), [(6, true), (7, true), (8, false), (9, false)], #[0, 0, 0, 0, 8, 24, 60, 126, 255, 511], [3000]⟩
  | _ => none
def plan65 : Nat → Option Plan
  | 2 => some ⟨(.node [0, 1, 2, 3] (.cons 4 true (.node [] (.cons 5 false (.node [] (.cons 6 false (.node [] .nil) .nil)) .nil)) .nil)), [(4, true), (5, false), (6, false)], #[0, 0, 0, 4, 14, 31, 63], [3000]⟩
  | 6 => some ⟨(.node [0, 1, 2, 3, 4, 5, 6] (.cons 7 true (.node [] (.cons 8 true (.node [] (.cons 9 false (.node [] (.cons 10 false (.node [] .nil) .nil)) .nil)) .nil)) .nil)), [(7, true), (8, true), (9, false), (10, false)], #[0, 0, 0, 4, 0, 0, 32, 112, 254, 511, 1023], [3000]⟩
  | _ => none
def plan66 : Nat → Option Plan
  | 5 => some ⟨(.node [0, 1] (.cons 2 true (.node [] (.cons 3 false (.node [] .nil) .nil)) .nil)), [(2, true), (3, false)], #[0, 0, 1, 7], [6]⟩
  | _ => none
def plan67 : Nat → Option Plan
  | 2 => some ⟨(.node [0, 2, 3, 4] (.cons 1 true (.node [] (.cons 5 false (.node [] (.cons 6 false (.node [] (.cons 7 false (.node [] .nil) .nil)) .nil)) .nil)) .nil)), [(1, true), (5, false), (6, false), (7, false)], #[0, 1, 0, 0, 8, 31, 63, 127], []⟩
  | 4 => some ⟨(.node [0, 1, 2, 3] (.cons 4 true (.node [] (.cons 5 false (.node [] (.cons 6 false (.node [] .nil) .nil)) .nil)) .nil)), [(4, true), (5, false), (6, false)], #[0, 0, 0, 4, 14, 31, 63], [3000]⟩
  | 6 => some ⟨(.node [0, 1, 2, 3] (.cons 4 true (.node [] (.cons 5 false (.node [] (.cons 6 false (.node [] .nil) .nil)) .nil)) .nil)), [(4, true), (5, false), (6, false)], #[0, 0, 0, 4, 14, 31, 63], [3000]⟩
  | 8 => some ⟨(.node [0, 1, 2, 3] (.cons 4 true (.node [] (.cons 5 false (.node [] (.cons 6 false (.node [] .nil) .nil)) .nil)) .nil)), [(4, true), (5, false), (6, false)], #[0, 0, 0, 4, 14, 31, 63], [3000]⟩
  | 9 => some ⟨(.node [0, 1, 2, 3, 4, 5, 6, 7, 8, 9, 10, 11, 13] (.cons 12 true (.node [14] (.cons 15 false (.node [] .nil) .nil)) .nil)), [(12, true), (15, false)], #[0, 1, 0, 4, 0, 16, 0, 64, 0, 256, 0, 1024, 3840, 0, 16383, 32767], []⟩
  | _ => none
def plan68 : Nat → Option Plan
  | 2 => some ⟨(.node [0, 1] (.cons 2 true (.node [] (.cons 3 false (.node [] .nil) .nil)) .nil)), [(2, true), (3, false)], #[0, 0, 1, 7], [8]⟩
  | 4 => some ⟨(.node [0, 2, 3, 4] (.cons 1 true (.node [] (.cons 5 false (.node [] (.cons 6 false (.node [] (.cons 7 false (.node [] .nil) .nil)) .nil)) .nil)) .nil)), [(1, true), (5, false), (6, false), (7, false)], #[0, 1, 0, 0, 8, 31, 63, 127], []⟩
  | 6 => some ⟨(.node [0, 1, 3, 5] (.cons 2 true (.node [] (.cons 4 true (.node [6] (.cons 7 true (.node [8] (.cons 9 false (.node [] .nil) .nil)) .nil)) .nil)) .nil)), [(2, true), (4, true), (7, true), (9, false)], #[0, 1, 3, 0, 15, 0, 63, 127, 255, 511], []⟩
  | _ => none
def plan69 : Nat → Option Plan
  | 6 => some ⟨(.node [0, 1, 2] (.cons 3 true (.node [] (.cons 4 false (.node [] (.cons 5 false (.node [] .nil) .nil)) .nil)) .nil)), [(3, true), (4, false), (5, false)], #[0, 0, 0, 6, 15, 31], []⟩
  | 8 => some ⟨(.node [0, 1, 2] (.cons 3 true (.node [] (.cons 4 false (.node [] (.cons 5 false (.node [] .nil) .nil)) .nil)) .nil)), [(3, true), (4, false), (5, false)], #[0, 0, 0, 6, 15, 31], []⟩
  | 10 => some ⟨(.node [0, 1, 2] (.cons 3 true (.node [] (.cons 4 false (.node [] (.cons 5 false (.node [] .nil) .nil)) .nil)) .nil)), [(3, true), (4, false), (5, false)], #[0, 0, 0, 6, 15, 31], []⟩
  | 12 => some ⟨(.node [0, 1, 2, 3, 4, 5, 6, 7] (.cons 8 true (.node [] (.cons 9 true (.node [] (.cons 10 true (.node [] (.cons 11 false (.node [] (.cons 12 false (.node [] .nil) .nil)) .nil)) .nil)) .nil)) .nil)), [(8, true), (9, true), (10, true), (11, false), (12, false)], #[0, 0, 0, 0, 8, 0, 32, 96, 224, 504, 1022, 2047, 4095], []⟩
  | 14 => some ⟨(.node [0, 1, 2] (.cons 3 true (.node [] (.cons 4 false (.node [] (.cons 5 false (.node [] .nil) .nil)) .nil)) .nil)), [(3, true), (4, false), (5, false)], #[0, 0, 0, 6, 15, 31], []⟩
  | 17 => some ⟨(.node [0, 1, 2] (.cons 3 true (.node [] (.cons 4 false (.node [] (.cons 5 false (.node [] .nil) .nil)) .nil)) .nil)), [(3, true), (4, false), (5, false)], #[0, 0, 0, 6, 15, 31], []⟩
  | 21 => some ⟨(.node [0, 1, 2, 3, 4, 5] (.cons 6 true (.node [] (.cons 7 true (.node [] (.cons 8 true (.node [] (.cons 9 false (.node [] (.cons 10 false (.node [] .nil) .nil)) .nil)) .nil)) .nil)) .nil)), [(6, true), (7, true), (8, true), (9, false), (10, false)], #[0, 0, 0, 0, 8, 0, 32, 120, 254, 511, 1023], []⟩
  | 24 => some ⟨(.node [0, 2] (.cons 1 true (.node [] (.cons 3 true (.node [] (.cons 4 false (.node [] .nil) .nil)) .nil)) .nil)), [(1, true), (3, true), (4, false)], #[0, 1, 0, 3, 15], [8]⟩
  | 26 => some ⟨(.node [0, 1] (.cons 2 true (.node [] (.cons 3 false (.node [] .nil) .nil)) .nil)), [(2, true), (3, false)], #[0, 0, 1, 7], [8]⟩
  | 28 => some ⟨(.node [0, 2, 3] (.cons 1 true (.node [] (.cons 4 false (.node [] (.cons 5 false (.node [] (.cons 6 false (.node [] .nil) .nil)) .nil)) .nil)) .nil)), [(1, true), (4, false), (5, false), (6, false)], #[0, 1, 0, 0, 15, 31, 63], []⟩
  | 30 => some ⟨(.node [0, 1, 2] (.cons 3 true (.node [] (.cons 4 false (.node [] (.cons 5 false (.node [] .nil) .nil)) .nil)) .nil)), [(3, true), (4, false), (5, false)], #[0, 0, 0, 6, 15, 31], []⟩
  | 32 => some ⟨(.node [0, 1, 2] (.cons 3 true (.node [] (.cons 4 false (.node [] (.cons 5 false (.node [] .nil) .nil)) .nil)) .nil)), [(3, true), (4, false), (5, false)], #[0, 0, 0, 6, 15, 31], []⟩
  | 34 => some ⟨(.node [0, 1, 2] (.cons 3 true (.node [] (.cons 4 false (.node [] (.cons 5 false (.node [] .nil) .nil)) .nil)) .nil)), [(3, true), (4, false), (5, false)], #[0, 0, 0, 6, 15, 31], []⟩
  | 36 => some ⟨(.node [0, 1, 2, 3, 4, 5, 6, 7, 8, 9, 10, 11, 12, 13] (.cons 14 true (.node [15, 16] (.cons 17 false (.node [] (.cons 18 false (.node [] .nil) .nil)) .nil)) .nil)), [(14, true), (17, false), (18, false)], #[0, 1, 0, 0, 8, 0, 32, 0, 0, 384, 0, 2047, 0, 0, 16383, 32767, 32767, 131071, 262143], []⟩
  | _ => none
def plan70 : Nat → Option Plan
  | 2 => some ⟨(.node [1, 3, 4, 5] (.cons 0 true (.node [] (.cons 2 true (.node [] (.cons 6 true (.node [7] .nil) .nil)) .nil)) .nil)), [(0, true), (2, true), (6, true)], #[0, 0, 3, 0, 0, 24, 63, 127], []⟩
  | _ => none
def plan76 : Nat → Option Plan
  | 2 => some ⟨(.node [0, 1] (.cons 2 true (.node [] (.cons 3 false (.node [] .nil) .nil)) .nil)), [(2, true), (3, false)], #[0, 0, 1, 7], [6]⟩
  | 4 => some ⟨(.node [0, 2, 3, 4, 5, 6, 7, 8] (.cons 1 true (.node [] (.cons 9 false (.node [] (.cons 10 false (.node [] (.cons 11 false (.node [] .nil) .nil)) .nil)) .nil)) .nil)), [(1, true), (9, false), (10, false), (11, false)], #[0, 1, 0, 0, 8, 0, 32, 0, 128, 511, 1023, 2047], []⟩
  | 7 => some ⟨(.node [0, 1, 2, 3, 4, 5, 6, 7, 8] (.cons 9 true (.node [] (.cons 10 false (.node [] .nil) .nil)) .nil)), [(9, true), (10, false)], #[0, 1, 0, 4, 0, 16, 0, 127, 0, 255, 1023], [6]⟩
  | _ => none
def plan79 : Nat → Option Plan
  | 2 => some ⟨(.node [0, 1] (.cons 2 true (.node [] (.cons 3 false (.node [] .nil) .nil)) .nil)), [(2, true), (3, false)], #[0, 0, 1, 7], [6]⟩
  | 4 => some ⟨(.node [0, 2, 3, 4, 5, 6] (.cons 1 true (.node [] (.cons 7 false (.node [] (.cons 8 false (.node [] (.cons 9 false (.node [] .nil) .nil)) .nil)) .nil)) .nil)), [(1, true), (7, false), (8, false), (9, false)], #[0, 1, 0, 0, 8, 0, 32, 127, 255, 511], []⟩
  | 5 => some ⟨(.node [0, 1, 2] (.cons 3 true (.node [4] (.cons 5 false (.node [] .nil) .nil)) .nil)), [(3, true), (5, false)], #[0, 1, 0, 4, 15, 31], [5]⟩
  | 6 => some ⟨(.node [0, 1, 2, 3, 4, 5, 6, 7, 8] (.cons 9 true (.node [] (.cons 10 false (.node [] .nil) .nil)) .nil)), [(9, true), (10, false)], #[0, 1, 0, 4, 0, 16, 0, 127, 0, 255, 1023], [6]⟩
  | _ => none
def plan82 : Nat → Option Plan
  | 2 => some ⟨(.node [0, 1, 3, 4] (.cons 2 true (.node [5, 6] (.cons 7 false (.node [] .nil) .nil)) .nil)), [(2, true), (7, false)], #[0, 1, 3, 0, 8, 31, 63, 127], []⟩
  | 5 => some ⟨(.node [0, 1, 3, 4] (.cons 2 true (.node [5, 6] (.cons 7 false (.node [] .nil) .nil)) .nil)), [(2, true), (7, false)], #[0, 1, 3, 0, 8, 31, 63, 127], []⟩
  | 7 => some ⟨(.node [0, 1, 3, 4] (.cons 2 true (.node [5, 6] (.cons 7 false (.node [] .nil) .nil)) .nil)), [(2, true), (7, false)], #[0, 1, 3, 0, 8, 31, 63, 127], []⟩
  | 9 => some ⟨(.node [0, 1, 3, 4] (.cons 2 true (.node [5, 6] (.cons 7 false (.node [] .nil) .nil)) .nil)), [(2, true), (7, false)], #[0, 1, 3, 0, 8, 31, 63, 127], []⟩
  | _ => none
end Go.Proofs.Ytokeanadhihlfaa.V
