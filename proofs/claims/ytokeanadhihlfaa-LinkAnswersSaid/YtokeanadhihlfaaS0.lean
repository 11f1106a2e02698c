import Derived.Test.YtokeanadhihlfaaPlans
import Derived.Test.YtokeanadhihlfaaMB
import Derived.Test.YtokeanadhihlfaaProg
import Derived.KernelRfl
set_option linter.all false
set_option maxHeartbeats 1000000
namespace Go.Proofs.Ytokeanadhihlfaa.V
open Go
def pkZ : List AV := [.int .u32 0, .bool false, .int .i64 0, .int .i64 0, .int .i64 0, .nil]
def Gam : TEnv := [(2, .int .i64), (3, .int .i64), (4, .bool), (5, .int .u8), (9, .str), (24, .sl 3 (.i .i64)), (27, .int .u32), (28, .sl 5 (.i .u8)), (30, .sl 28 (.r 1)), (31, .sl 38 (.r 0)), (32, .int .i64), (38, .st [(0,1),(1,1),(2,1),(3,1),(4,1),(5,1)] pkZ), (39, .ptr), (80, .int .u64), (83, .st [(0,1),(1,1)] [.nil, .int .i64 0]), (86, .int .u64), (109, .ar 4 [.int .u64 0, .int .u64 0, .int .u64 0, .int .u64 0]), (87, .sl 27 (.i .u32)), (107, .sl 86 (.i .u64))]
theorem gam_ok : TOk Proofs.Try.prog Gam := tB_of (by kernel_rfl)
theorem mixed_ok : Proofs.Try.prog.follows .mixedOrders = true := by kernel_rfl
def pkS : Shp := .a [.s, .s, .s, .s, .s, .i .u8]
def noP : Nat → Option Plan := fun _ => none
end Go.Proofs.Ytokeanadhihlfaa.V
