/- Printed by plans.py: the orders of the regions that draw. -/
import Derived.Test.YtnioiijcmdnhaaaVLoop
set_option linter.all false
namespace Go.Proofs.Ytnioiijcmdnhaaa.V
def plan3 : Nat → Option Plan
  | 10 => some ⟨(.node [0, 1, 2, 3, 4, 5] (.cons 6 false (.node [7, 8, 9, 10, 11, 12, 13, 14, 15, 16, 17, 18, 19, 20, 21, 22, 23, 24, 26] (.cons 25 true (.node [] (.cons 27 false (.node [28, 29, 30] (.cons 31 false (.node [32, 33] .nil) .nil)) .nil)) .nil)) .nil)), [(6, false), (25, true), (27, false), (31, false)], #[0, 0, 3, 7, 15, 15, 63, 127, 255, 511, 511, 2047, 4095, 8191, 16383, 32767, 65535, 131071, 262143, 524287, 1048575, 2097151, 4194303, 8388607, 16777215, 33554431, 16777215, 134217727, 268435455, 536870911, 1073741823, 2147483647, 4294967295, 8589934591], []⟩
  | _ => none
def plan6 : Nat → Option Plan
  | 7 => some ⟨(.node [0, 1, 2, 3, 4, 5, 6, 7] (.cons 8 false (.node [9, 10, 11, 12] (.cons 13 true (.node [] (.cons 14 false (.node [15, 16] .nil) .nil)) .nil)) (.cons 13 true (.node [] (.cons 8 false (.node [9, 10, 11, 12] (.cons 14 false (.node [15, 16] .nil) .nil)) .nil)) .nil))), [(8, false), (13, true), (14, false)], #[0, 0, 2, 0, 14, 0, 0, 96, 255, 511, 1023, 1023, 1023, 0, 10239, 28671, 65535], []⟩
  | _ => none
def plan7 : Nat → Option Plan
  | 11 => some ⟨(.node [0, 1, 2, 3, 4, 5, 6, 7, 8, 9, 10, 11, 12, 13, 14, 15, 16, 17, 18, 19, 20, 21, 22, 23, 24, 25, 26, 27, 28] .nil), [], #[0, 1, 0, 7, 15, 0, 32, 0, 224, 480, 1023, 2047, 4095, 8191, 16383, 32767, 65535, 131071, 65535, 524287, 1048575, 65535, 2162687, 65535, 14745599, 31522815, 67108863, 134217727, 268435455], []⟩
  | _ => none
def plan16 : Nat → Option Plan
  | 5 => some ⟨(.node [0, 1, 2, 3, 4, 5, 6, 7, 8, 9, 10, 11, 12, 13, 14, 15, 16, 17, 18, 19, 20] (.cons 21 false (.node [] .nil) .nil)), [(21, false)], #[0, 1, 0, 0, 12, 28, 60, 0, 128, 384, 1020, 2047, 4095, 0, 0, 24576, 57344, 122880, 253952, 524287, 1048575, 2097151], []⟩
  | _ => none
def plan23 : Nat → Option Plan
  | 20 => some ⟨(.node [0, 1, 2, 3, 4, 5, 6] (.cons 7 false (.node [8, 9] .nil) .nil)), [(7, false)], #[0, 0, 0, 6, 0, 0, 48, 126, 255, 511], []⟩
  | _ => none
def plan28 : Nat → Option Plan
  | 4 => some ⟨(.node [0, 1, 2, 3] (.cons 4 true (.node [5] (.cons 6 true (.node [] (.cons 7 false (.node [] .nil) .nil)) .nil)) (.cons 6 true (.node [] (.cons 4 true (.node [5] (.cons 7 false (.node [] .nil) .nil)) .nil)) .nil))), [(4, true), (6, true), (7, false)], #[0, 1, 0, 4, 12, 31, 0, 127], []⟩
  | _ => none
def plan34 : Nat → Option Plan
  | 9 => some ⟨(.node [0, 1, 2, 3, 4, 5, 6, 7, 8, 9, 10, 11, 12] (.cons 13 false (.node [] .nil) .nil)), [(13, false)], #[0, 1, 0, 0, 12, 31, 63, 0, 0, 384, 896, 2047, 4095, 8191], []⟩
  | _ => none
end Go.Proofs.Ytnioiijcmdnhaaa.V
