import Derived.Test.YtnioiijcmdnhaaaPlans
import Derived.Test.YtnioiijcmdnhaaaVNum
import Derived.Test.YtnioiijcmdnhaaaProg
import Derived.Test.YtnioiijcmdnhaaaPQ1
import Derived.KernelRfl
set_option linter.all false
set_option maxHeartbeats 1000000
namespace Go.Proofs.Ytnioiijcmdnhaaa.V
open Go
def Gam : TEnv := [(3, .int .i64), (4, .bool), (5, .int .u8), (9, .str), (22, .sl 5 (.i .u8)), (24, .st [(0,1),(1,1)] [.int .i64 0, .nil]), (26, .sl 3 (.i .i64)), (27, .int .i64), (30, .int .u64), (58, .int .u32), (61, .int .u64)]
theorem gam_ok : TOk Proofs.Try.prog Gam := tB_of (by kernel_rfl)
theorem mixed_ok : Proofs.Try.prog.follows .mixedOrders = true := by kernel_rfl
def noP : Nat → Option Plan := fun _ => none
def flS : Shp := .a [.s, .i .u8]
def flR : Shp := .a [.s, .li 5 .u8]
end Go.Proofs.Ytnioiijcmdnhaaa.V
