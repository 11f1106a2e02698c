import Derived.Test.YtokeanadhihlfaaPlans
import Derived.Test.YtokeanadhihlfaaVNum
import Derived.Test.YtokeanadhihlfaaProg
import Derived.Test.YtokeanadhihlfaaS0
import Derived.Test.YtokeanadhihlfaaS1
import Derived.Test.YtokeanadhihlfaaS2
import Derived.Test.YtokeanadhihlfaaS3
import Derived.Test.YtokeanadhihlfaaS4
import Derived.Test.YtokeanadhihlfaaS5
import Derived.Test.YtokeanadhihlfaaB1
import Derived.Test.YtokeanadhihlfaaP3
import Derived.Test.YtokeanadhihlfaaPlansB
import Derived.KernelRfl
set_option linter.all false
set_option maxHeartbeats 1000000
namespace Go.Proofs.Ytokeanadhihlfaa.V
open Go
def Gam5 : TEnv := (41, .sl 31 .c) :: Gam
theorem gam5_ok : TOk Proofs.Try.prog Gam5 := tB_of (by kernel_rfl)
def pm5 : Pm := ⟨[.r 0, .i .i64, .s, .s], .no, [.s]⟩
def u5 : List (Nat × Tr) := [(17, S17), (18, S18), (21, S21), (22, S22), (24, S24), (26, S26), (27, S27), (28, S28), (29, S29)]
theorem a5 : AllKeep Proofs.Try.prog u5 := ⟨k17, k18, k21, k22, k24, k26, k27, k28, k29, trivial⟩

def kp5_3 : List (Loc × Keep) := [(.t 0, .shp (.r 0)), (.t 1, .shp (.i .i64)), (.t 2, .shp .s), (.t 3, .shp .s), (.t 9, .shp .s), (.t 10, .shp .s)]
def tr5_3 : Trim := .some [0, 1, 2, 3] [] [8] []
def L5_3 : LTr
  | ⟨[(0, .rs false 0 ps), (1, .ints false .i64 l), (2, .int .i64 seed), (3, .int .i64 size), (9, .int .i64 tot), (10, .int .i64 i)], []⟩, k => chk (decide (0 ≤ i ∧ i ≤ 91 ∧ 0 ≤ tot ∧ tot ≤ 9000)) (k (.exit 0) ⟨[(0, .rs false 0 ps), (1, .ints false .i64 l), (2, .int .i64 seed), (3, .int .i64 size)], []⟩ ∧ k .ret ⟨[(8, .bool true)], []⟩)
  | _, _ => False
def c5_0 : Cfg := { n := 207, Γ := Gam5, C := ofL u5, pm := pmL [(17, pm17), (18, pm18), (21, pm21), (22, pm22), (24, pm24), (26, pm26), (27, pm27), (28, pm28), (29, pm29)], plan := planB5, L := lpL [], unroll := nmL [(29, 4)], keep := kpL [(3, kp5_3)] }
def c5 : Cfg := { n := 207, Γ := Gam5, C := ofL u5, pm := pmL [(17, pm17), (18, pm18), (21, pm21), (22, pm22), (24, pm24), (26, pm26), (27, pm27), (28, pm28), (29, pm29)], plan := planB5, L := lpL [(3, L5_3)], unroll := nmL [(29, 4)], keep := kpL [(3, kp5_3)] }
def S5 : Tr
  | [.rs false 0 ps, .ints false .i64 l, .int .i64 seed, .int .i64 size], none, post => post (.bool true) none
  | _, _, _ => False
theorem t5_0 (ps : List Rec) (l : List Int) (seed size : Int) (post : AV → Option AV → Prop) : runF c5 pm5 Proofs.Try.f5 [.rs false 0 ps, .ints false .i64 l, .int .i64 seed, .int .i64 size] none post = (chk
     (decide
     ((0 : Int) < (4 : Int) ∧
     (4 : Int) ≤ (1000000 : Int) ∧ (0 : Int) ≤ nextN l (0 : Int) ∧ nextN l (0 : Int) ≤ @Nat.cast Int _ l.length))
     (∀ (r : Int),
     (0 : Int) ≤ r ∧ r ≤ (4097 : Int) →
     chk
     (decide
     ((0 : Int) ≤ IntKind.u64.wrap seed % (99 : Int) ∧
     IntKind.u64.wrap seed % (99 : Int) ≤ (1000 : Int) ∧ (0 : Int) ≤ r ∧ r ≤ (4097 : Int)))
     (∀ (l_1 : List Int),
     RngL IntKind.u8 l_1 →
     l_1.length = r.toNat →
     chk
     (decide
     ((splitL (IntKind.u32.wrap (IntKind.i64.wrap ((1 : Int) + nextR l (0 : Int) (2 : Int))))
     (IntKind.i64.wrap ((1 : Int) + nextR l (nextN l (0 : Int)) (4 : Int))) l_1).length ≤
     (1099511627776 : Nat)))
     (br
     (decide
     (@Nat.cast Int _
     (splitL (IntKind.u32.wrap (IntKind.i64.wrap ((1 : Int) + nextR l (0 : Int) (2 : Int))))
     (IntKind.i64.wrap ((1 : Int) + nextR l (nextN l (0 : Int)) (4 : Int))) l_1).length >
     (0 : Int)))
     (chk
     (decide
     ((0 : Int) <
     @Nat.cast Int _
     (splitL (IntKind.u32.wrap (IntKind.i64.wrap ((1 : Int) + nextR l (0 : Int) (2 : Int))))
     (IntKind.i64.wrap ((1 : Int) + nextR l (nextN l (0 : Int)) (4 : Int))) l_1).length ∧
     @Nat.cast Int _
     (splitL (IntKind.u32.wrap (IntKind.i64.wrap ((1 : Int) + nextR l (0 : Int) (2 : Int))))
     (IntKind.i64.wrap ((1 : Int) + nextR l (nextN l (0 : Int)) (4 : Int))) l_1).length ≤
     (1000000 : Int) ∧
     (0 : Int) ≤ nextN l (nextN l (0 : Int)) ∧ nextN l (nextN l (0 : Int)) ≤ @Nat.cast Int _ l.length))
     (chk
     (decide
     ((0 : Int) < (7 : Int) ∧
     (7 : Int) ≤ (1000000 : Int) ∧
     (0 : Int) ≤ nextN l (nextN l (nextN l (0 : Int))) ∧
     nextN l (nextN l (nextN l (0 : Int))) ≤ @Nat.cast Int _ l.length))
     (br (nextR l (nextN l (nextN l (nextN l (0 : Int)))) (7 : Int) == (0 : Int))
     (chk
     (inB
     (nextR l (nextN l (nextN l (0 : Int)))
     (@Nat.cast Int _
     (splitL
     (IntKind.u32.wrap (IntKind.i64.wrap ((1 : Int) + nextR l (0 : Int) (2 : Int))))
     (IntKind.i64.wrap ((1 : Int) + nextR l (nextN l (0 : Int)) (4 : Int)))
     l_1).length))
     (splitL (IntKind.u32.wrap (IntKind.i64.wrap ((1 : Int) + nextR l (0 : Int) (2 : Int))))
     (IntKind.i64.wrap ((1 : Int) + nextR l (nextN l (0 : Int)) (4 : Int))) l_1).length)
     (chk
     (decide
     ((nextR l (nextN l (nextN l (0 : Int)))
     (@Nat.cast Int _
     (splitL
     (IntKind.u32.wrap
     (IntKind.i64.wrap ((1 : Int) + nextR l (0 : Int) (2 : Int))))
     (IntKind.i64.wrap ((1 : Int) + nextR l (nextN l (0 : Int)) (4 : Int)))
     l_1).length)).toNat <
     (splitL
     (IntKind.u32.wrap (IntKind.i64.wrap ((1 : Int) + nextR l (0 : Int) (2 : Int))))
     (IntKind.i64.wrap ((1 : Int) + nextR l (nextN l (0 : Int)) (4 : Int)))
     l_1).length))
     (chk
     (inB
     (nextR l (nextN l (nextN l (0 : Int)))
     (@Nat.cast Int _
     (splitL
     (IntKind.u32.wrap
     (IntKind.i64.wrap ((1 : Int) + nextR l (0 : Int) (2 : Int))))
     (IntKind.i64.wrap ((1 : Int) + nextR l (nextN l (0 : Int)) (4 : Int)))
     l_1).length))
     (splitL
     (IntKind.u32.wrap (IntKind.i64.wrap ((1 : Int) + nextR l (0 : Int) (2 : Int))))
     (IntKind.i64.wrap ((1 : Int) + nextR l (nextN l (0 : Int)) (4 : Int)))
     l_1).length)
     (chk
     (decide
     ((nextR l (nextN l (nextN l (0 : Int)))
     (@Nat.cast Int _
     (splitL
     (IntKind.u32.wrap
     (IntKind.i64.wrap ((1 : Int) + nextR l (0 : Int) (2 : Int))))
     (IntKind.i64.wrap ((1 : Int) + nextR l (nextN l (0 : Int)) (4 : Int)))
     l_1).length)).toNat <
     (splitL
     (IntKind.u32.wrap
     (IntKind.i64.wrap ((1 : Int) + nextR l (0 : Int) (2 : Int))))
     (IntKind.i64.wrap ((1 : Int) + nextR l (nextN l (0 : Int)) (4 : Int)))
     l_1).length))
     (br (joinC ps != joinC ps) (post (AV.bool false) none)
     (br (!strEq (joinR ps).1 (joinR ps).1) (post (AV.bool false) none)
     (br (joinU ps != joinU ps) (post (AV.bool false) none)
     (br ((joinR ps).2 != (joinR ps).2) (post (AV.bool false) none)
     (br
     (joinC
     (splitL
     (IntKind.u32.wrap
     (IntKind.i64.wrap ((1 : Int) + nextR l (0 : Int) (2 : Int))))
     (IntKind.i64.wrap ((1 : Int) + nextR l (nextN l (0 : Int)) (4 : Int)))
     l_1) !=
     joinC
     (splitL
     (IntKind.u32.wrap
     (IntKind.i64.wrap ((1 : Int) + nextR l (0 : Int) (2 : Int))))
     (IntKind.i64.wrap ((1 : Int) + nextR l (nextN l (0 : Int)) (4 : Int)))
     l_1))
     (post (AV.bool false) none)
     (br
     (!strEq
     (joinR
     (splitL
     (IntKind.u32.wrap
     (IntKind.i64.wrap ((1 : Int) + nextR l (0 : Int) (2 : Int))))
     (IntKind.i64.wrap
     ((1 : Int) + nextR l (nextN l (0 : Int)) (4 : Int)))
     l_1)).1
     (joinR
     (splitL
     (IntKind.u32.wrap
     (IntKind.i64.wrap ((1 : Int) + nextR l (0 : Int) (2 : Int))))
     (IntKind.i64.wrap
     ((1 : Int) + nextR l (nextN l (0 : Int)) (4 : Int)))
     l_1)).1)
     (post (AV.bool false) none)
     (br
     (joinU
     (splitL
     (IntKind.u32.wrap
     (IntKind.i64.wrap ((1 : Int) + nextR l (0 : Int) (2 : Int))))
     (IntKind.i64.wrap
     ((1 : Int) + nextR l (nextN l (0 : Int)) (4 : Int)))
     l_1) !=
     joinU
     (splitL
     (IntKind.u32.wrap
     (IntKind.i64.wrap ((1 : Int) + nextR l (0 : Int) (2 : Int))))
     (IntKind.i64.wrap
     ((1 : Int) + nextR l (nextN l (0 : Int)) (4 : Int)))
     l_1))
     (post (AV.bool false) none)
     (br
     ((joinR
     (splitL
     (IntKind.u32.wrap
     (IntKind.i64.wrap
     ((1 : Int) + nextR l (0 : Int) (2 : Int))))
     (IntKind.i64.wrap
     ((1 : Int) + nextR l (nextN l (0 : Int)) (4 : Int)))
     l_1)).2 !=
     (joinR
     (splitL
     (IntKind.u32.wrap
     (IntKind.i64.wrap
     ((1 : Int) + nextR l (0 : Int) (2 : Int))))
     (IntKind.i64.wrap
     ((1 : Int) + nextR l (nextN l (0 : Int)) (4 : Int)))
     l_1)).2)
     (post (AV.bool false) none)
     (br
     (joinC
     ((splitL
     (IntKind.u32.wrap
     (IntKind.i64.wrap
     ((1 : Int) + nextR l (0 : Int) (2 : Int))))
     (IntKind.i64.wrap
     ((1 : Int) + nextR l (nextN l (0 : Int)) (4 : Int)))
     l_1).set
     (nextR l (nextN l (nextN l (0 : Int)))
     (@Nat.cast Int _
     (splitL
     (IntKind.u32.wrap
     (IntKind.i64.wrap
     ((1 : Int) + nextR l (0 : Int) (2 : Int))))
     (IntKind.i64.wrap
     ((1 : Int) +
     nextR l (nextN l (0 : Int)) (4 : Int)))
     l_1).length)).toNat
     (Rec.mk
     (IntKind.u32.wrap
     (((splitL
     (IntKind.u32.wrap
     (IntKind.i64.wrap
     ((1 : Int) + nextR l (0 : Int) (2 : Int))))
     (IntKind.i64.wrap
     ((1 : Int) +
     nextR l (nextN l (0 : Int)) (4 : Int)))
     l_1).getD
     (nextR l (nextN l (nextN l (0 : Int)))
     (@Nat.cast Int _
     (splitL
     (IntKind.u32.wrap
     (IntKind.i64.wrap
     ((1 : Int) +
     nextR l (0 : Int) (2 : Int))))
     (IntKind.i64.wrap
     ((1 : Int) +
     nextR l (nextN l (0 : Int))
     (4 : Int)))
     l_1).length)).toNat
     default).1 +
     (1 : Int)))
     ((splitL
     (IntKind.u32.wrap
     (IntKind.i64.wrap
     ((1 : Int) + nextR l (0 : Int) (2 : Int))))
     (IntKind.i64.wrap
     ((1 : Int) +
     nextR l (nextN l (0 : Int)) (4 : Int)))
     l_1).getD
     (nextR l (nextN l (nextN l (0 : Int)))
     (@Nat.cast Int _
     (splitL
     (IntKind.u32.wrap
     (IntKind.i64.wrap
     ((1 : Int) +
     nextR l (0 : Int) (2 : Int))))
     (IntKind.i64.wrap
     ((1 : Int) +
     nextR l (nextN l (0 : Int)) (4 : Int)))
     l_1).length)).toNat
     default).2
     ((splitL
     (IntKind.u32.wrap
     (IntKind.i64.wrap
     ((1 : Int) + nextR l (0 : Int) (2 : Int))))
     (IntKind.i64.wrap
     ((1 : Int) +
     nextR l (nextN l (0 : Int)) (4 : Int)))
     l_1).getD
     (nextR l (nextN l (nextN l (0 : Int)))
     (@Nat.cast Int _
     (splitL
     (IntKind.u32.wrap
     (IntKind.i64.wrap
     ((1 : Int) +
     nextR l (0 : Int) (2 : Int))))
     (IntKind.i64.wrap
     ((1 : Int) +
     nextR l (nextN l (0 : Int)) (4 : Int)))
     l_1).length)).toNat
     default).3
     ((splitL
     (IntKind.u32.wrap
     (IntKind.i64.wrap
     ((1 : Int) + nextR l (0 : Int) (2 : Int))))
     (IntKind.i64.wrap
     ((1 : Int) +
     nextR l (nextN l (0 : Int)) (4 : Int)))
     l_1).getD
     (nextR l (nextN l (nextN l (0 : Int)))
     (@Nat.cast Int _
     (splitL
     (IntKind.u32.wrap
     (IntKind.i64.wrap
     ((1 : Int) +
     nextR l (0 : Int) (2 : Int))))
     (IntKind.i64.wrap
     ((1 : Int) +
     nextR l (nextN l (0 : Int)) (4 : Int)))
     l_1).length)).toNat
     default).4
     ((splitL
     (IntKind.u32.wrap
     (IntKind.i64.wrap
     ((1 : Int) + nextR l (0 : Int) (2 : Int))))
     (IntKind.i64.wrap
     ((1 : Int) +
     nextR l (nextN l (0 : Int)) (4 : Int)))
     l_1).getD
     (nextR l (nextN l (nextN l (0 : Int)))
     (@Nat.cast Int _
     (splitL
     (IntKind.u32.wrap
     (IntKind.i64.wrap
     ((1 : Int) +
     nextR l (0 : Int) (2 : Int))))
     (IntKind.i64.wrap
     ((1 : Int) +
     nextR l (nextN l (0 : Int)) (4 : Int)))
     l_1).length)).toNat
     default).5
     ((splitL
     (IntKind.u32.wrap
     (IntKind.i64.wrap
     ((1 : Int) + nextR l (0 : Int) (2 : Int))))
     (IntKind.i64.wrap
     ((1 : Int) +
     nextR l (nextN l (0 : Int)) (4 : Int)))
     l_1).getD
     (nextR l (nextN l (nextN l (0 : Int)))
     (@Nat.cast Int _
     (splitL
     (IntKind.u32.wrap
     (IntKind.i64.wrap
     ((1 : Int) +
     nextR l (0 : Int) (2 : Int))))
     (IntKind.i64.wrap
     ((1 : Int) +
     nextR l (nextN l (0 : Int)) (4 : Int)))
     l_1).length)).toNat
     default).6)) !=
     joinC
     ((splitL
     (IntKind.u32.wrap
     (IntKind.i64.wrap
     ((1 : Int) + nextR l (0 : Int) (2 : Int))))
     (IntKind.i64.wrap
     ((1 : Int) + nextR l (nextN l (0 : Int)) (4 : Int)))
     l_1).set
     (nextR l (nextN l (nextN l (0 : Int)))
     (@Nat.cast Int _
     (splitL
     (IntKind.u32.wrap
     (IntKind.i64.wrap
     ((1 : Int) + nextR l (0 : Int) (2 : Int))))
     (IntKind.i64.wrap
     ((1 : Int) +
     nextR l (nextN l (0 : Int)) (4 : Int)))
     l_1).length)).toNat
     (Rec.mk
     (IntKind.u32.wrap
     (((splitL
     (IntKind.u32.wrap
     (IntKind.i64.wrap
     ((1 : Int) + nextR l (0 : Int) (2 : Int))))
     (IntKind.i64.wrap
     ((1 : Int) +
     nextR l (nextN l (0 : Int)) (4 : Int)))
     l_1).getD
     (nextR l (nextN l (nextN l (0 : Int)))
     (@Nat.cast Int _
     (splitL
     (IntKind.u32.wrap
     (IntKind.i64.wrap
     ((1 : Int) +
     nextR l (0 : Int) (2 : Int))))
     (IntKind.i64.wrap
     ((1 : Int) +
     nextR l (nextN l (0 : Int))
     (4 : Int)))
     l_1).length)).toNat
     default).1 +
     (1 : Int)))
     ((splitL
     (IntKind.u32.wrap
     (IntKind.i64.wrap
     ((1 : Int) + nextR l (0 : Int) (2 : Int))))
     (IntKind.i64.wrap
     ((1 : Int) +
     nextR l (nextN l (0 : Int)) (4 : Int)))
     l_1).getD
     (nextR l (nextN l (nextN l (0 : Int)))
     (@Nat.cast Int _
     (splitL
     (IntKind.u32.wrap
     (IntKind.i64.wrap
     ((1 : Int) +
     nextR l (0 : Int) (2 : Int))))
     (IntKind.i64.wrap
     ((1 : Int) +
     nextR l (nextN l (0 : Int)) (4 : Int)))
     l_1).length)).toNat
     default).2
     ((splitL
     (IntKind.u32.wrap
     (IntKind.i64.wrap
     ((1 : Int) + nextR l (0 : Int) (2 : Int))))
     (IntKind.i64.wrap
     ((1 : Int) +
     nextR l (nextN l (0 : Int)) (4 : Int)))
     l_1).getD
     (nextR l (nextN l (nextN l (0 : Int)))
     (@Nat.cast Int _
     (splitL
     (IntKind.u32.wrap
     (IntKind.i64.wrap
     ((1 : Int) +
     nextR l (0 : Int) (2 : Int))))
     (IntKind.i64.wrap
     ((1 : Int) +
     nextR l (nextN l (0 : Int)) (4 : Int)))
     l_1).length)).toNat
     default).3
     ((splitL
     (IntKind.u32.wrap
     (IntKind.i64.wrap
     ((1 : Int) + nextR l (0 : Int) (2 : Int))))
     (IntKind.i64.wrap
     ((1 : Int) +
     nextR l (nextN l (0 : Int)) (4 : Int)))
     l_1).getD
     (nextR l (nextN l (nextN l (0 : Int)))
     (@Nat.cast Int _
     (splitL
     (IntKind.u32.wrap
     (IntKind.i64.wrap
     ((1 : Int) +
     nextR l (0 : Int) (2 : Int))))
     (IntKind.i64.wrap
     ((1 : Int) +
     nextR l (nextN l (0 : Int)) (4 : Int)))
     l_1).length)).toNat
     default).4
     ((splitL
     (IntKind.u32.wrap
     (IntKind.i64.wrap
     ((1 : Int) + nextR l (0 : Int) (2 : Int))))
     (IntKind.i64.wrap
     ((1 : Int) +
     nextR l (nextN l (0 : Int)) (4 : Int)))
     l_1).getD
     (nextR l (nextN l (nextN l (0 : Int)))
     (@Nat.cast Int _
     (splitL
     (IntKind.u32.wrap
     (IntKind.i64.wrap
     ((1 : Int) +
     nextR l (0 : Int) (2 : Int))))
     (IntKind.i64.wrap
     ((1 : Int) +
     nextR l (nextN l (0 : Int)) (4 : Int)))
     l_1).length)).toNat
     default).5
     ((splitL
     (IntKind.u32.wrap
     (IntKind.i64.wrap
     ((1 : Int) + nextR l (0 : Int) (2 : Int))))
     (IntKind.i64.wrap
     ((1 : Int) +
     nextR l (nextN l (0 : Int)) (4 : Int)))
     l_1).getD
     (nextR l (nextN l (nextN l (0 : Int)))
     (@Nat.cast Int _
     (splitL
     (IntKind.u32.wrap
     (IntKind.i64.wrap
     ((1 : Int) +
     nextR l (0 : Int) (2 : Int))))
     (IntKind.i64.wrap
     ((1 : Int) +
     nextR l (nextN l (0 : Int)) (4 : Int)))
     l_1).length)).toNat
     default).6)))
     (post (AV.bool false) none)
     (br
     (!strEq
     (joinR
     ((splitL
     (IntKind.u32.wrap
     (IntKind.i64.wrap
     ((1 : Int) + nextR l (0 : Int) (2 : Int))))
     (IntKind.i64.wrap
     ((1 : Int) +
     nextR l (nextN l (0 : Int)) (4 : Int)))
     l_1).set
     (nextR l (nextN l (nextN l (0 : Int)))
     (@Nat.cast Int _
     (splitL
     (IntKind.u32.wrap
     (IntKind.i64.wrap
     ((1 : Int) +
     nextR l (0 : Int) (2 : Int))))
     (IntKind.i64.wrap
     ((1 : Int) +
     nextR l (nextN l (0 : Int)) (4 : Int)))
     l_1).length)).toNat
     (Rec.mk
     (IntKind.u32.wrap
     (((splitL
     (IntKind.u32.wrap
     (IntKind.i64.wrap
     ((1 : Int) +
     nextR l (0 : Int) (2 : Int))))
     (IntKind.i64.wrap
     ((1 : Int) +
     nextR l (nextN l (0 : Int))
     (4 : Int)))
     l_1).getD
     (nextR l (nextN l (nextN l (0 : Int)))
     (@Nat.cast Int _
     (splitL
     (IntKind.u32.wrap
     (IntKind.i64.wrap
     ((1 : Int) +
     nextR l (0 : Int) (2 : Int))))
     (IntKind.i64.wrap
     ((1 : Int) +
     nextR l (nextN l (0 : Int))
     (4 : Int)))
     l_1).length)).toNat
     default).1 +
     (1 : Int)))
     ((splitL
     (IntKind.u32.wrap
     (IntKind.i64.wrap
     ((1 : Int) +
     nextR l (0 : Int) (2 : Int))))
     (IntKind.i64.wrap
     ((1 : Int) +
     nextR l (nextN l (0 : Int)) (4 : Int)))
     l_1).getD
     (nextR l (nextN l (nextN l (0 : Int)))
     (@Nat.cast Int _
     (splitL
     (IntKind.u32.wrap
     (IntKind.i64.wrap
     ((1 : Int) +
     nextR l (0 : Int) (2 : Int))))
     (IntKind.i64.wrap
     ((1 : Int) +
     nextR l (nextN l (0 : Int))
     (4 : Int)))
     l_1).length)).toNat
     default).2
     ((splitL
     (IntKind.u32.wrap
     (IntKind.i64.wrap
     ((1 : Int) +
     nextR l (0 : Int) (2 : Int))))
     (IntKind.i64.wrap
     ((1 : Int) +
     nextR l (nextN l (0 : Int)) (4 : Int)))
     l_1).getD
     (nextR l (nextN l (nextN l (0 : Int)))
     (@Nat.cast Int _
     (splitL
     (IntKind.u32.wrap
     (IntKind.i64.wrap
     ((1 : Int) +
     nextR l (0 : Int) (2 : Int))))
     (IntKind.i64.wrap
     ((1 : Int) +
     nextR l (nextN l (0 : Int))
     (4 : Int)))
     l_1).length)).toNat
     default).3
     ((splitL
     (IntKind.u32.wrap
     (IntKind.i64.wrap
     ((1 : Int) +
     nextR l (0 : Int) (2 : Int))))
     (IntKind.i64.wrap
     ((1 : Int) +
     nextR l (nextN l (0 : Int)) (4 : Int)))
     l_1).getD
     (nextR l (nextN l (nextN l (0 : Int)))
     (@Nat.cast Int _
     (splitL
     (IntKind.u32.wrap
     (IntKind.i64.wrap
     ((1 : Int) +
     nextR l (0 : Int) (2 : Int))))
     (IntKind.i64.wrap
     ((1 : Int) +
     nextR l (nextN l (0 : Int))
     (4 : Int)))
     l_1).length)).toNat
     default).4
     ((splitL
     (IntKind.u32.wrap
     (IntKind.i64.wrap
     ((1 : Int) +
     nextR l (0 : Int) (2 : Int))))
     (IntKind.i64.wrap
     ((1 : Int) +
     nextR l (nextN l (0 : Int)) (4 : Int)))
     l_1).getD
     (nextR l (nextN l (nextN l (0 : Int)))
     (@Nat.cast Int _
     (splitL
     (IntKind.u32.wrap
     (IntKind.i64.wrap
     ((1 : Int) +
     nextR l (0 : Int) (2 : Int))))
     (IntKind.i64.wrap
     ((1 : Int) +
     nextR l (nextN l (0 : Int))
     (4 : Int)))
     l_1).length)).toNat
     default).5
     ((splitL
     (IntKind.u32.wrap
     (IntKind.i64.wrap
     ((1 : Int) +
     nextR l (0 : Int) (2 : Int))))
     (IntKind.i64.wrap
     ((1 : Int) +
     nextR l (nextN l (0 : Int)) (4 : Int)))
     l_1).getD
     (nextR l (nextN l (nextN l (0 : Int)))
     (@Nat.cast Int _
     (splitL
     (IntKind.u32.wrap
     (IntKind.i64.wrap
     ((1 : Int) +
     nextR l (0 : Int) (2 : Int))))
     (IntKind.i64.wrap
     ((1 : Int) +
     nextR l (nextN l (0 : Int))
     (4 : Int)))
     l_1).length)).toNat
     default).6))).1
     (joinR
     ((splitL
     (IntKind.u32.wrap
     (IntKind.i64.wrap
     ((1 : Int) + nextR l (0 : Int) (2 : Int))))
     (IntKind.i64.wrap
     ((1 : Int) +
     nextR l (nextN l (0 : Int)) (4 : Int)))
     l_1).set
     (nextR l (nextN l (nextN l (0 : Int)))
     (@Nat.cast Int _
     (splitL
     (IntKind.u32.wrap
     (IntKind.i64.wrap
     ((1 : Int) +
     nextR l (0 : Int) (2 : Int))))
     (IntKind.i64.wrap
     ((1 : Int) +
     nextR l (nextN l (0 : Int)) (4 : Int)))
     l_1).length)).toNat
     (Rec.mk
     (IntKind.u32.wrap
     (((splitL
     (IntKind.u32.wrap
     (IntKind.i64.wrap
     ((1 : Int) +
     nextR l (0 : Int) (2 : Int))))
     (IntKind.i64.wrap
     ((1 : Int) +
     nextR l (nextN l (0 : Int))
     (4 : Int)))
     l_1).getD
     (nextR l (nextN l (nextN l (0 : Int)))
     (@Nat.cast Int _
     (splitL
     (IntKind.u32.wrap
     (IntKind.i64.wrap
     ((1 : Int) +
     nextR l (0 : Int) (2 : Int))))
     (IntKind.i64.wrap
     ((1 : Int) +
     nextR l (nextN l (0 : Int))
     (4 : Int)))
     l_1).length)).toNat
     default).1 +
     (1 : Int)))
     ((splitL
     (IntKind.u32.wrap
     (IntKind.i64.wrap
     ((1 : Int) +
     nextR l (0 : Int) (2 : Int))))
     (IntKind.i64.wrap
     ((1 : Int) +
     nextR l (nextN l (0 : Int)) (4 : Int)))
     l_1).getD
     (nextR l (nextN l (nextN l (0 : Int)))
     (@Nat.cast Int _
     (splitL
     (IntKind.u32.wrap
     (IntKind.i64.wrap
     ((1 : Int) +
     nextR l (0 : Int) (2 : Int))))
     (IntKind.i64.wrap
     ((1 : Int) +
     nextR l (nextN l (0 : Int))
     (4 : Int)))
     l_1).length)).toNat
     default).2
     ((splitL
     (IntKind.u32.wrap
     (IntKind.i64.wrap
     ((1 : Int) +
     nextR l (0 : Int) (2 : Int))))
     (IntKind.i64.wrap
     ((1 : Int) +
     nextR l (nextN l (0 : Int)) (4 : Int)))
     l_1).getD
     (nextR l (nextN l (nextN l (0 : Int)))
     (@Nat.cast Int _
     (splitL
     (IntKind.u32.wrap
     (IntKind.i64.wrap
     ((1 : Int) +
     nextR l (0 : Int) (2 : Int))))
     (IntKind.i64.wrap
     ((1 : Int) +
     nextR l (nextN l (0 : Int))
     (4 : Int)))
     l_1).length)).toNat
     default).3
     ((splitL
     (IntKind.u32.wrap
     (IntKind.i64.wrap
     ((1 : Int) +
     nextR l (0 : Int) (2 : Int))))
     (IntKind.i64.wrap
     ((1 : Int) +
     nextR l (nextN l (0 : Int)) (4 : Int)))
     l_1).getD
     (nextR l (nextN l (nextN l (0 : Int)))
     (@Nat.cast Int _
     (splitL
     (IntKind.u32.wrap
     (IntKind.i64.wrap
     ((1 : Int) +
     nextR l (0 : Int) (2 : Int))))
     (IntKind.i64.wrap
     ((1 : Int) +
     nextR l (nextN l (0 : Int))
     (4 : Int)))
     l_1).length)).toNat
     default).4
     ((splitL
     (IntKind.u32.wrap
     (IntKind.i64.wrap
     ((1 : Int) +
     nextR l (0 : Int) (2 : Int))))
     (IntKind.i64.wrap
     ((1 : Int) +
     nextR l (nextN l (0 : Int)) (4 : Int)))
     l_1).getD
     (nextR l (nextN l (nextN l (0 : Int)))
     (@Nat.cast Int _
     (splitL
     (IntKind.u32.wrap
     (IntKind.i64.wrap
     ((1 : Int) +
     nextR l (0 : Int) (2 : Int))))
     (IntKind.i64.wrap
     ((1 : Int) +
     nextR l (nextN l (0 : Int))
     (4 : Int)))
     l_1).length)).toNat
     default).5
     ((splitL
     (IntKind.u32.wrap
     (IntKind.i64.wrap
     ((1 : Int) +
     nextR l (0 : Int) (2 : Int))))
     (IntKind.i64.wrap
     ((1 : Int) +
     nextR l (nextN l (0 : Int)) (4 : Int)))
     l_1).getD
     (nextR l (nextN l (nextN l (0 : Int)))
     (@Nat.cast Int _
     (splitL
     (IntKind.u32.wrap
     (IntKind.i64.wrap
     ((1 : Int) +
     nextR l (0 : Int) (2 : Int))))
     (IntKind.i64.wrap
     ((1 : Int) +
     nextR l (nextN l (0 : Int))
     (4 : Int)))
     l_1).length)).toNat
     default).6))).1)
     (post (AV.bool false) none)
     (br
     (joinU
     ((splitL
     (IntKind.u32.wrap
     (IntKind.i64.wrap
     ((1 : Int) + nextR l (0 : Int) (2 : Int))))
     (IntKind.i64.wrap
     ((1 : Int) + nextR l (nextN l (0 : Int)) (4 : Int)))
     l_1).set
     (nextR l (nextN l (nextN l (0 : Int)))
     (@Nat.cast Int _
     (splitL
     (IntKind.u32.wrap
     (IntKind.i64.wrap
     ((1 : Int) + nextR l (0 : Int) (2 : Int))))
     (IntKind.i64.wrap
     ((1 : Int) +
     nextR l (nextN l (0 : Int)) (4 : Int)))
     l_1).length)).toNat
     (Rec.mk
     (IntKind.u32.wrap
     (((splitL
     (IntKind.u32.wrap
     (IntKind.i64.wrap
     ((1 : Int) +
     nextR l (0 : Int) (2 : Int))))
     (IntKind.i64.wrap
     ((1 : Int) +
     nextR l (nextN l (0 : Int)) (4 : Int)))
     l_1).getD
     (nextR l (nextN l (nextN l (0 : Int)))
     (@Nat.cast Int _
     (splitL
     (IntKind.u32.wrap
     (IntKind.i64.wrap
     ((1 : Int) +
     nextR l (0 : Int) (2 : Int))))
     (IntKind.i64.wrap
     ((1 : Int) +
     nextR l (nextN l (0 : Int))
     (4 : Int)))
     l_1).length)).toNat
     default).1 +
     (1 : Int)))
     ((splitL
     (IntKind.u32.wrap
     (IntKind.i64.wrap
     ((1 : Int) + nextR l (0 : Int) (2 : Int))))
     (IntKind.i64.wrap
     ((1 : Int) +
     nextR l (nextN l (0 : Int)) (4 : Int)))
     l_1).getD
     (nextR l (nextN l (nextN l (0 : Int)))
     (@Nat.cast Int _
     (splitL
     (IntKind.u32.wrap
     (IntKind.i64.wrap
     ((1 : Int) +
     nextR l (0 : Int) (2 : Int))))
     (IntKind.i64.wrap
     ((1 : Int) +
     nextR l (nextN l (0 : Int))
     (4 : Int)))
     l_1).length)).toNat
     default).2
     ((splitL
     (IntKind.u32.wrap
     (IntKind.i64.wrap
     ((1 : Int) + nextR l (0 : Int) (2 : Int))))
     (IntKind.i64.wrap
     ((1 : Int) +
     nextR l (nextN l (0 : Int)) (4 : Int)))
     l_1).getD
     (nextR l (nextN l (nextN l (0 : Int)))
     (@Nat.cast Int _
     (splitL
     (IntKind.u32.wrap
     (IntKind.i64.wrap
     ((1 : Int) +
     nextR l (0 : Int) (2 : Int))))
     (IntKind.i64.wrap
     ((1 : Int) +
     nextR l (nextN l (0 : Int))
     (4 : Int)))
     l_1).length)).toNat
     default).3
     ((splitL
     (IntKind.u32.wrap
     (IntKind.i64.wrap
     ((1 : Int) + nextR l (0 : Int) (2 : Int))))
     (IntKind.i64.wrap
     ((1 : Int) +
     nextR l (nextN l (0 : Int)) (4 : Int)))
     l_1).getD
     (nextR l (nextN l (nextN l (0 : Int)))
     (@Nat.cast Int _
     (splitL
     (IntKind.u32.wrap
     (IntKind.i64.wrap
     ((1 : Int) +
     nextR l (0 : Int) (2 : Int))))
     (IntKind.i64.wrap
     ((1 : Int) +
     nextR l (nextN l (0 : Int))
     (4 : Int)))
     l_1).length)).toNat
     default).4
     ((splitL
     (IntKind.u32.wrap
     (IntKind.i64.wrap
     ((1 : Int) + nextR l (0 : Int) (2 : Int))))
     (IntKind.i64.wrap
     ((1 : Int) +
     nextR l (nextN l (0 : Int)) (4 : Int)))
     l_1).getD
     (nextR l (nextN l (nextN l (0 : Int)))
     (@Nat.cast Int _
     (splitL
     (IntKind.u32.wrap
     (IntKind.i64.wrap
     ((1 : Int) +
     nextR l (0 : Int) (2 : Int))))
     (IntKind.i64.wrap
     ((1 : Int) +
     nextR l (nextN l (0 : Int))
     (4 : Int)))
     l_1).length)).toNat
     default).5
     ((splitL
     (IntKind.u32.wrap
     (IntKind.i64.wrap
     ((1 : Int) + nextR l (0 : Int) (2 : Int))))
     (IntKind.i64.wrap
     ((1 : Int) +
     nextR l (nextN l (0 : Int)) (4 : Int)))
     l_1).getD
     (nextR l (nextN l (nextN l (0 : Int)))
     (@Nat.cast Int _
     (splitL
     (IntKind.u32.wrap
     (IntKind.i64.wrap
     ((1 : Int) +
     nextR l (0 : Int) (2 : Int))))
     (IntKind.i64.wrap
     ((1 : Int) +
     nextR l (nextN l (0 : Int))
     (4 : Int)))
     l_1).length)).toNat
     default).6)) !=
     joinU
     ((splitL
     (IntKind.u32.wrap
     (IntKind.i64.wrap
     ((1 : Int) + nextR l (0 : Int) (2 : Int))))
     (IntKind.i64.wrap
     ((1 : Int) + nextR l (nextN l (0 : Int)) (4 : Int)))
     l_1).set
     (nextR l (nextN l (nextN l (0 : Int)))
     (@Nat.cast Int _
     (splitL
     (IntKind.u32.wrap
     (IntKind.i64.wrap
     ((1 : Int) + nextR l (0 : Int) (2 : Int))))
     (IntKind.i64.wrap
     ((1 : Int) +
     nextR l (nextN l (0 : Int)) (4 : Int)))
     l_1).length)).toNat
     (Rec.mk
     (IntKind.u32.wrap
     (((splitL
     (IntKind.u32.wrap
     (IntKind.i64.wrap
     ((1 : Int) +
     nextR l (0 : Int) (2 : Int))))
     (IntKind.i64.wrap
     ((1 : Int) +
     nextR l (nextN l (0 : Int)) (4 : Int)))
     l_1).getD
     (nextR l (nextN l (nextN l (0 : Int)))
     (@Nat.cast Int _
     (splitL
     (IntKind.u32.wrap
     (IntKind.i64.wrap
     ((1 : Int) +
     nextR l (0 : Int) (2 : Int))))
     (IntKind.i64.wrap
     ((1 : Int) +
     nextR l (nextN l (0 : Int))
     (4 : Int)))
     l_1).length)).toNat
     default).1 +
     (1 : Int)))
     ((splitL
     (IntKind.u32.wrap
     (IntKind.i64.wrap
     ((1 : Int) + nextR l (0 : Int) (2 : Int))))
     (IntKind.i64.wrap
     ((1 : Int) +
     nextR l (nextN l (0 : Int)) (4 : Int)))
     l_1).getD
     (nextR l (nextN l (nextN l (0 : Int)))
     (@Nat.cast Int _
     (splitL
     (IntKind.u32.wrap
     (IntKind.i64.wrap
     ((1 : Int) +
     nextR l (0 : Int) (2 : Int))))
     (IntKind.i64.wrap
     ((1 : Int) +
     nextR l (nextN l (0 : Int))
     (4 : Int)))
     l_1).length)).toNat
     default).2
     ((splitL
     (IntKind.u32.wrap
     (IntKind.i64.wrap
     ((1 : Int) + nextR l (0 : Int) (2 : Int))))
     (IntKind.i64.wrap
     ((1 : Int) +
     nextR l (nextN l (0 : Int)) (4 : Int)))
     l_1).getD
     (nextR l (nextN l (nextN l (0 : Int)))
     (@Nat.cast Int _
     (splitL
     (IntKind.u32.wrap
     (IntKind.i64.wrap
     ((1 : Int) +
     nextR l (0 : Int) (2 : Int))))
     (IntKind.i64.wrap
     ((1 : Int) +
     nextR l (nextN l (0 : Int))
     (4 : Int)))
     l_1).length)).toNat
     default).3
     ((splitL
     (IntKind.u32.wrap
     (IntKind.i64.wrap
     ((1 : Int) + nextR l (0 : Int) (2 : Int))))
     (IntKind.i64.wrap
     ((1 : Int) +
     nextR l (nextN l (0 : Int)) (4 : Int)))
     l_1).getD
     (nextR l (nextN l (nextN l (0 : Int)))
     (@Nat.cast Int _
     (splitL
     (IntKind.u32.wrap
     (IntKind.i64.wrap
     ((1 : Int) +
     nextR l (0 : Int) (2 : Int))))
     (IntKind.i64.wrap
     ((1 : Int) +
     nextR l (nextN l (0 : Int))
     (4 : Int)))
     l_1).length)).toNat
     default).4
     ((splitL
     (IntKind.u32.wrap
     (IntKind.i64.wrap
     ((1 : Int) + nextR l (0 : Int) (2 : Int))))
     (IntKind.i64.wrap
     ((1 : Int) +
     nextR l (nextN l (0 : Int)) (4 : Int)))
     l_1).getD
     (nextR l (nextN l (nextN l (0 : Int)))
     (@Nat.cast Int _
     (splitL
     (IntKind.u32.wrap
     (IntKind.i64.wrap
     ((1 : Int) +
     nextR l (0 : Int) (2 : Int))))
     (IntKind.i64.wrap
     ((1 : Int) +
     nextR l (nextN l (0 : Int))
     (4 : Int)))
     l_1).length)).toNat
     default).5
     ((splitL
     (IntKind.u32.wrap
     (IntKind.i64.wrap
     ((1 : Int) + nextR l (0 : Int) (2 : Int))))
     (IntKind.i64.wrap
     ((1 : Int) +
     nextR l (nextN l (0 : Int)) (4 : Int)))
     l_1).getD
     (nextR l (nextN l (nextN l (0 : Int)))
     (@Nat.cast Int _
     (splitL
     (IntKind.u32.wrap
     (IntKind.i64.wrap
     ((1 : Int) +
     nextR l (0 : Int) (2 : Int))))
     (IntKind.i64.wrap
     ((1 : Int) +
     nextR l (nextN l (0 : Int))
     (4 : Int)))
     l_1).length)).toNat
     default).6)))
     (post (AV.bool false) none)
     (br
     ((joinR
     ((splitL
     (IntKind.u32.wrap
     (IntKind.i64.wrap
     ((1 : Int) + nextR l (0 : Int) (2 : Int))))
     (IntKind.i64.wrap
     ((1 : Int) +
     nextR l (nextN l (0 : Int)) (4 : Int)))
     l_1).set
     (nextR l (nextN l (nextN l (0 : Int)))
     (@Nat.cast Int _
     (splitL
     (IntKind.u32.wrap
     (IntKind.i64.wrap
     ((1 : Int) +
     nextR l (0 : Int) (2 : Int))))
     (IntKind.i64.wrap
     ((1 : Int) +
     nextR l (nextN l (0 : Int)) (4 : Int)))
     l_1).length)).toNat
     (Rec.mk
     (IntKind.u32.wrap
     (((splitL
     (IntKind.u32.wrap
     (IntKind.i64.wrap
     ((1 : Int) +
     nextR l (0 : Int) (2 : Int))))
     (IntKind.i64.wrap
     ((1 : Int) +
     nextR l (nextN l (0 : Int))
     (4 : Int)))
     l_1).getD
     (nextR l (nextN l (nextN l (0 : Int)))
     (@Nat.cast Int _
     (splitL
     (IntKind.u32.wrap
     (IntKind.i64.wrap
     ((1 : Int) +
     nextR l (0 : Int)
     (2 : Int))))
     (IntKind.i64.wrap
     ((1 : Int) +
     nextR l (nextN l (0 : Int))
     (4 : Int)))
     l_1).length)).toNat
     default).1 +
     (1 : Int)))
     ((splitL
     (IntKind.u32.wrap
     (IntKind.i64.wrap
     ((1 : Int) +
     nextR l (0 : Int) (2 : Int))))
     (IntKind.i64.wrap
     ((1 : Int) +
     nextR l (nextN l (0 : Int)) (4 : Int)))
     l_1).getD
     (nextR l (nextN l (nextN l (0 : Int)))
     (@Nat.cast Int _
     (splitL
     (IntKind.u32.wrap
     (IntKind.i64.wrap
     ((1 : Int) +
     nextR l (0 : Int) (2 : Int))))
     (IntKind.i64.wrap
     ((1 : Int) +
     nextR l (nextN l (0 : Int))
     (4 : Int)))
     l_1).length)).toNat
     default).2
     ((splitL
     (IntKind.u32.wrap
     (IntKind.i64.wrap
     ((1 : Int) +
     nextR l (0 : Int) (2 : Int))))
     (IntKind.i64.wrap
     ((1 : Int) +
     nextR l (nextN l (0 : Int)) (4 : Int)))
     l_1).getD
     (nextR l (nextN l (nextN l (0 : Int)))
     (@Nat.cast Int _
     (splitL
     (IntKind.u32.wrap
     (IntKind.i64.wrap
     ((1 : Int) +
     nextR l (0 : Int) (2 : Int))))
     (IntKind.i64.wrap
     ((1 : Int) +
     nextR l (nextN l (0 : Int))
     (4 : Int)))
     l_1).length)).toNat
     default).3
     ((splitL
     (IntKind.u32.wrap
     (IntKind.i64.wrap
     ((1 : Int) +
     nextR l (0 : Int) (2 : Int))))
     (IntKind.i64.wrap
     ((1 : Int) +
     nextR l (nextN l (0 : Int)) (4 : Int)))
     l_1).getD
     (nextR l (nextN l (nextN l (0 : Int)))
     (@Nat.cast Int _
     (splitL
     (IntKind.u32.wrap
     (IntKind.i64.wrap
     ((1 : Int) +
     nextR l (0 : Int) (2 : Int))))
     (IntKind.i64.wrap
     ((1 : Int) +
     nextR l (nextN l (0 : Int))
     (4 : Int)))
     l_1).length)).toNat
     default).4
     ((splitL
     (IntKind.u32.wrap
     (IntKind.i64.wrap
     ((1 : Int) +
     nextR l (0 : Int) (2 : Int))))
     (IntKind.i64.wrap
     ((1 : Int) +
     nextR l (nextN l (0 : Int)) (4 : Int)))
     l_1).getD
     (nextR l (nextN l (nextN l (0 : Int)))
     (@Nat.cast Int _
     (splitL
     (IntKind.u32.wrap
     (IntKind.i64.wrap
     ((1 : Int) +
     nextR l (0 : Int) (2 : Int))))
     (IntKind.i64.wrap
     ((1 : Int) +
     nextR l (nextN l (0 : Int))
     (4 : Int)))
     l_1).length)).toNat
     default).5
     ((splitL
     (IntKind.u32.wrap
     (IntKind.i64.wrap
     ((1 : Int) +
     nextR l (0 : Int) (2 : Int))))
     (IntKind.i64.wrap
     ((1 : Int) +
     nextR l (nextN l (0 : Int)) (4 : Int)))
     l_1).getD
     (nextR l (nextN l (nextN l (0 : Int)))
     (@Nat.cast Int _
     (splitL
     (IntKind.u32.wrap
     (IntKind.i64.wrap
     ((1 : Int) +
     nextR l (0 : Int) (2 : Int))))
     (IntKind.i64.wrap
     ((1 : Int) +
     nextR l (nextN l (0 : Int))
     (4 : Int)))
     l_1).length)).toNat
     default).6))).2 !=
     (joinR
     ((splitL
     (IntKind.u32.wrap
     (IntKind.i64.wrap
     ((1 : Int) + nextR l (0 : Int) (2 : Int))))
     (IntKind.i64.wrap
     ((1 : Int) +
     nextR l (nextN l (0 : Int)) (4 : Int)))
     l_1).set
     (nextR l (nextN l (nextN l (0 : Int)))
     (@Nat.cast Int _
     (splitL
     (IntKind.u32.wrap
     (IntKind.i64.wrap
     ((1 : Int) +
     nextR l (0 : Int) (2 : Int))))
     (IntKind.i64.wrap
     ((1 : Int) +
     nextR l (nextN l (0 : Int)) (4 : Int)))
     l_1).length)).toNat
     (Rec.mk
     (IntKind.u32.wrap
     (((splitL
     (IntKind.u32.wrap
     (IntKind.i64.wrap
     ((1 : Int) +
     nextR l (0 : Int) (2 : Int))))
     (IntKind.i64.wrap
     ((1 : Int) +
     nextR l (nextN l (0 : Int))
     (4 : Int)))
     l_1).getD
     (nextR l (nextN l (nextN l (0 : Int)))
     (@Nat.cast Int _
     (splitL
     (IntKind.u32.wrap
     (IntKind.i64.wrap
     ((1 : Int) +
     nextR l (0 : Int)
     (2 : Int))))
     (IntKind.i64.wrap
     ((1 : Int) +
     nextR l (nextN l (0 : Int))
     (4 : Int)))
     l_1).length)).toNat
     default).1 +
     (1 : Int)))
     ((splitL
     (IntKind.u32.wrap
     (IntKind.i64.wrap
     ((1 : Int) +
     nextR l (0 : Int) (2 : Int))))
     (IntKind.i64.wrap
     ((1 : Int) +
     nextR l (nextN l (0 : Int)) (4 : Int)))
     l_1).getD
     (nextR l (nextN l (nextN l (0 : Int)))
     (@Nat.cast Int _
     (splitL
     (IntKind.u32.wrap
     (IntKind.i64.wrap
     ((1 : Int) +
     nextR l (0 : Int) (2 : Int))))
     (IntKind.i64.wrap
     ((1 : Int) +
     nextR l (nextN l (0 : Int))
     (4 : Int)))
     l_1).length)).toNat
     default).2
     ((splitL
     (IntKind.u32.wrap
     (IntKind.i64.wrap
     ((1 : Int) +
     nextR l (0 : Int) (2 : Int))))
     (IntKind.i64.wrap
     ((1 : Int) +
     nextR l (nextN l (0 : Int)) (4 : Int)))
     l_1).getD
     (nextR l (nextN l (nextN l (0 : Int)))
     (@Nat.cast Int _
     (splitL
     (IntKind.u32.wrap
     (IntKind.i64.wrap
     ((1 : Int) +
     nextR l (0 : Int) (2 : Int))))
     (IntKind.i64.wrap
     ((1 : Int) +
     nextR l (nextN l (0 : Int))
     (4 : Int)))
     l_1).length)).toNat
     default).3
     ((splitL
     (IntKind.u32.wrap
     (IntKind.i64.wrap
     ((1 : Int) +
     nextR l (0 : Int) (2 : Int))))
     (IntKind.i64.wrap
     ((1 : Int) +
     nextR l (nextN l (0 : Int)) (4 : Int)))
     l_1).getD
     (nextR l (nextN l (nextN l (0 : Int)))
     (@Nat.cast Int _
     (splitL
     (IntKind.u32.wrap
     (IntKind.i64.wrap
     ((1 : Int) +
     nextR l (0 : Int) (2 : Int))))
     (IntKind.i64.wrap
     ((1 : Int) +
     nextR l (nextN l (0 : Int))
     (4 : Int)))
     l_1).length)).toNat
     default).4
     ((splitL
     (IntKind.u32.wrap
     (IntKind.i64.wrap
     ((1 : Int) +
     nextR l (0 : Int) (2 : Int))))
     (IntKind.i64.wrap
     ((1 : Int) +
     nextR l (nextN l (0 : Int)) (4 : Int)))
     l_1).getD
     (nextR l (nextN l (nextN l (0 : Int)))
     (@Nat.cast Int _
     (splitL
     (IntKind.u32.wrap
     (IntKind.i64.wrap
     ((1 : Int) +
     nextR l (0 : Int) (2 : Int))))
     (IntKind.i64.wrap
     ((1 : Int) +
     nextR l (nextN l (0 : Int))
     (4 : Int)))
     l_1).length)).toNat
     default).5
     ((splitL
     (IntKind.u32.wrap
     (IntKind.i64.wrap
     ((1 : Int) +
     nextR l (0 : Int) (2 : Int))))
     (IntKind.i64.wrap
     ((1 : Int) +
     nextR l (nextN l (0 : Int)) (4 : Int)))
     l_1).getD
     (nextR l (nextN l (nextN l (0 : Int)))
     (@Nat.cast Int _
     (splitL
     (IntKind.u32.wrap
     (IntKind.i64.wrap
     ((1 : Int) +
     nextR l (0 : Int) (2 : Int))))
     (IntKind.i64.wrap
     ((1 : Int) +
     nextR l (nextN l (0 : Int))
     (4 : Int)))
     l_1).length)).toNat
     default).6))).2)
     (post (AV.bool false) none)
     (post (AV.bool true) none)))))))))))))))))
     (br (nextR l (nextN l (nextN l (nextN l (0 : Int)))) (7 : Int) == (1 : Int))
     (chk
     (inB
     (nextR l (nextN l (nextN l (0 : Int)))
     (@Nat.cast Int _
     (splitL
     (IntKind.u32.wrap (IntKind.i64.wrap ((1 : Int) + nextR l (0 : Int) (2 : Int))))
     (IntKind.i64.wrap ((1 : Int) + nextR l (nextN l (0 : Int)) (4 : Int)))
     l_1).length))
     (splitL (IntKind.u32.wrap (IntKind.i64.wrap ((1 : Int) + nextR l (0 : Int) (2 : Int))))
     (IntKind.i64.wrap ((1 : Int) + nextR l (nextN l (0 : Int)) (4 : Int))) l_1).length)
     (chk
     (decide
     ((nextR l (nextN l (nextN l (0 : Int)))
     (@Nat.cast Int _
     (splitL
     (IntKind.u32.wrap
     (IntKind.i64.wrap ((1 : Int) + nextR l (0 : Int) (2 : Int))))
     (IntKind.i64.wrap ((1 : Int) + nextR l (nextN l (0 : Int)) (4 : Int)))
     l_1).length)).toNat <
     (splitL
     (IntKind.u32.wrap (IntKind.i64.wrap ((1 : Int) + nextR l (0 : Int) (2 : Int))))
     (IntKind.i64.wrap ((1 : Int) + nextR l (nextN l (0 : Int)) (4 : Int)))
     l_1).length))
     (chk
     (inB
     (nextR l (nextN l (nextN l (0 : Int)))
     (@Nat.cast Int _
     (splitL
     (IntKind.u32.wrap
     (IntKind.i64.wrap ((1 : Int) + nextR l (0 : Int) (2 : Int))))
     (IntKind.i64.wrap ((1 : Int) + nextR l (nextN l (0 : Int)) (4 : Int)))
     l_1).length))
     (splitL
     (IntKind.u32.wrap (IntKind.i64.wrap ((1 : Int) + nextR l (0 : Int) (2 : Int))))
     (IntKind.i64.wrap ((1 : Int) + nextR l (nextN l (0 : Int)) (4 : Int)))
     l_1).length)
     (chk
     (decide
     ((nextR l (nextN l (nextN l (0 : Int)))
     (@Nat.cast Int _
     (splitL
     (IntKind.u32.wrap
     (IntKind.i64.wrap ((1 : Int) + nextR l (0 : Int) (2 : Int))))
     (IntKind.i64.wrap ((1 : Int) + nextR l (nextN l (0 : Int)) (4 : Int)))
     l_1).length)).toNat <
     (splitL
     (IntKind.u32.wrap
     (IntKind.i64.wrap ((1 : Int) + nextR l (0 : Int) (2 : Int))))
     (IntKind.i64.wrap ((1 : Int) + nextR l (nextN l (0 : Int)) (4 : Int)))
     l_1).length))
     (br (joinC ps != joinC ps) (post (AV.bool false) none)
     (br (!strEq (joinR ps).1 (joinR ps).1) (post (AV.bool false) none)
     (br (joinU ps != joinU ps) (post (AV.bool false) none)
     (br ((joinR ps).2 != (joinR ps).2) (post (AV.bool false) none)
     (br
     (joinC
     (splitL
     (IntKind.u32.wrap
     (IntKind.i64.wrap ((1 : Int) + nextR l (0 : Int) (2 : Int))))
     (IntKind.i64.wrap
     ((1 : Int) + nextR l (nextN l (0 : Int)) (4 : Int)))
     l_1) !=
     joinC
     (splitL
     (IntKind.u32.wrap
     (IntKind.i64.wrap ((1 : Int) + nextR l (0 : Int) (2 : Int))))
     (IntKind.i64.wrap
     ((1 : Int) + nextR l (nextN l (0 : Int)) (4 : Int)))
     l_1))
     (post (AV.bool false) none)
     (br
     (!strEq
     (joinR
     (splitL
     (IntKind.u32.wrap
     (IntKind.i64.wrap
     ((1 : Int) + nextR l (0 : Int) (2 : Int))))
     (IntKind.i64.wrap
     ((1 : Int) + nextR l (nextN l (0 : Int)) (4 : Int)))
     l_1)).1
     (joinR
     (splitL
     (IntKind.u32.wrap
     (IntKind.i64.wrap
     ((1 : Int) + nextR l (0 : Int) (2 : Int))))
     (IntKind.i64.wrap
     ((1 : Int) + nextR l (nextN l (0 : Int)) (4 : Int)))
     l_1)).1)
     (post (AV.bool false) none)
     (br
     (joinU
     (splitL
     (IntKind.u32.wrap
     (IntKind.i64.wrap ((1 : Int) + nextR l (0 : Int) (2 : Int))))
     (IntKind.i64.wrap
     ((1 : Int) + nextR l (nextN l (0 : Int)) (4 : Int)))
     l_1) !=
     joinU
     (splitL
     (IntKind.u32.wrap
     (IntKind.i64.wrap ((1 : Int) + nextR l (0 : Int) (2 : Int))))
     (IntKind.i64.wrap
     ((1 : Int) + nextR l (nextN l (0 : Int)) (4 : Int)))
     l_1))
     (post (AV.bool false) none)
     (br
     ((joinR
     (splitL
     (IntKind.u32.wrap
     (IntKind.i64.wrap
     ((1 : Int) + nextR l (0 : Int) (2 : Int))))
     (IntKind.i64.wrap
     ((1 : Int) + nextR l (nextN l (0 : Int)) (4 : Int)))
     l_1)).2 !=
     (joinR
     (splitL
     (IntKind.u32.wrap
     (IntKind.i64.wrap
     ((1 : Int) + nextR l (0 : Int) (2 : Int))))
     (IntKind.i64.wrap
     ((1 : Int) + nextR l (nextN l (0 : Int)) (4 : Int)))
     l_1)).2)
     (post (AV.bool false) none)
     (br
     (joinC
     ((splitL
     (IntKind.u32.wrap
     (IntKind.i64.wrap
     ((1 : Int) + nextR l (0 : Int) (2 : Int))))
     (IntKind.i64.wrap
     ((1 : Int) + nextR l (nextN l (0 : Int)) (4 : Int)))
     l_1).set
     (nextR l (nextN l (nextN l (0 : Int)))
     (@Nat.cast Int _
     (splitL
     (IntKind.u32.wrap
     (IntKind.i64.wrap
     ((1 : Int) + nextR l (0 : Int) (2 : Int))))
     (IntKind.i64.wrap
     ((1 : Int) +
     nextR l (nextN l (0 : Int)) (4 : Int)))
     l_1).length)).toNat
     (Rec.mk
     ((splitL
     (IntKind.u32.wrap
     (IntKind.i64.wrap
     ((1 : Int) + nextR l (0 : Int) (2 : Int))))
     (IntKind.i64.wrap
     ((1 : Int) +
     nextR l (nextN l (0 : Int)) (4 : Int)))
     l_1).getD
     (nextR l (nextN l (nextN l (0 : Int)))
     (@Nat.cast Int _
     (splitL
     (IntKind.u32.wrap
     (IntKind.i64.wrap
     ((1 : Int) +
     nextR l (0 : Int) (2 : Int))))
     (IntKind.i64.wrap
     ((1 : Int) +
     nextR l (nextN l (0 : Int)) (4 : Int)))
     l_1).length)).toNat
     default).1
     ((splitL
     (IntKind.u32.wrap
     (IntKind.i64.wrap
     ((1 : Int) + nextR l (0 : Int) (2 : Int))))
     (IntKind.i64.wrap
     ((1 : Int) +
     nextR l (nextN l (0 : Int)) (4 : Int)))
     l_1).getD
     (nextR l (nextN l (nextN l (0 : Int)))
     (@Nat.cast Int _
     (splitL
     (IntKind.u32.wrap
     (IntKind.i64.wrap
     ((1 : Int) +
     nextR l (0 : Int) (2 : Int))))
     (IntKind.i64.wrap
     ((1 : Int) +
     nextR l (nextN l (0 : Int)) (4 : Int)))
     l_1).length)).toNat
     default).2
     ((splitL
     (IntKind.u32.wrap
     (IntKind.i64.wrap
     ((1 : Int) + nextR l (0 : Int) (2 : Int))))
     (IntKind.i64.wrap
     ((1 : Int) +
     nextR l (nextN l (0 : Int)) (4 : Int)))
     l_1).getD
     (nextR l (nextN l (nextN l (0 : Int)))
     (@Nat.cast Int _
     (splitL
     (IntKind.u32.wrap
     (IntKind.i64.wrap
     ((1 : Int) +
     nextR l (0 : Int) (2 : Int))))
     (IntKind.i64.wrap
     ((1 : Int) +
     nextR l (nextN l (0 : Int)) (4 : Int)))
     l_1).length)).toNat
     default).3
     (IntKind.i64.wrap
     (((splitL
     (IntKind.u32.wrap
     (IntKind.i64.wrap
     ((1 : Int) +
     nextR l (0 : Int) (2 : Int))))
     (IntKind.i64.wrap
     ((1 : Int) +
     nextR l (nextN l (0 : Int)) (4 : Int)))
     l_1).getD
     (nextR l (nextN l (nextN l (0 : Int)))
     (@Nat.cast Int _
     (splitL
     (IntKind.u32.wrap
     (IntKind.i64.wrap
     ((1 : Int) +
     nextR l (0 : Int) (2 : Int))))
     (IntKind.i64.wrap
     ((1 : Int) +
     nextR l (nextN l (0 : Int))
     (4 : Int)))
     l_1).length)).toNat
     default).4 +
     (1 : Int)))
     ((splitL
     (IntKind.u32.wrap
     (IntKind.i64.wrap
     ((1 : Int) + nextR l (0 : Int) (2 : Int))))
     (IntKind.i64.wrap
     ((1 : Int) +
     nextR l (nextN l (0 : Int)) (4 : Int)))
     l_1).getD
     (nextR l (nextN l (nextN l (0 : Int)))
     (@Nat.cast Int _
     (splitL
     (IntKind.u32.wrap
     (IntKind.i64.wrap
     ((1 : Int) +
     nextR l (0 : Int) (2 : Int))))
     (IntKind.i64.wrap
     ((1 : Int) +
     nextR l (nextN l (0 : Int)) (4 : Int)))
     l_1).length)).toNat
     default).5
     ((splitL
     (IntKind.u32.wrap
     (IntKind.i64.wrap
     ((1 : Int) + nextR l (0 : Int) (2 : Int))))
     (IntKind.i64.wrap
     ((1 : Int) +
     nextR l (nextN l (0 : Int)) (4 : Int)))
     l_1).getD
     (nextR l (nextN l (nextN l (0 : Int)))
     (@Nat.cast Int _
     (splitL
     (IntKind.u32.wrap
     (IntKind.i64.wrap
     ((1 : Int) +
     nextR l (0 : Int) (2 : Int))))
     (IntKind.i64.wrap
     ((1 : Int) +
     nextR l (nextN l (0 : Int)) (4 : Int)))
     l_1).length)).toNat
     default).6)) !=
     joinC
     ((splitL
     (IntKind.u32.wrap
     (IntKind.i64.wrap
     ((1 : Int) + nextR l (0 : Int) (2 : Int))))
     (IntKind.i64.wrap
     ((1 : Int) + nextR l (nextN l (0 : Int)) (4 : Int)))
     l_1).set
     (nextR l (nextN l (nextN l (0 : Int)))
     (@Nat.cast Int _
     (splitL
     (IntKind.u32.wrap
     (IntKind.i64.wrap
     ((1 : Int) + nextR l (0 : Int) (2 : Int))))
     (IntKind.i64.wrap
     ((1 : Int) +
     nextR l (nextN l (0 : Int)) (4 : Int)))
     l_1).length)).toNat
     (Rec.mk
     ((splitL
     (IntKind.u32.wrap
     (IntKind.i64.wrap
     ((1 : Int) + nextR l (0 : Int) (2 : Int))))
     (IntKind.i64.wrap
     ((1 : Int) +
     nextR l (nextN l (0 : Int)) (4 : Int)))
     l_1).getD
     (nextR l (nextN l (nextN l (0 : Int)))
     (@Nat.cast Int _
     (splitL
     (IntKind.u32.wrap
     (IntKind.i64.wrap
     ((1 : Int) +
     nextR l (0 : Int) (2 : Int))))
     (IntKind.i64.wrap
     ((1 : Int) +
     nextR l (nextN l (0 : Int)) (4 : Int)))
     l_1).length)).toNat
     default).1
     ((splitL
     (IntKind.u32.wrap
     (IntKind.i64.wrap
     ((1 : Int) + nextR l (0 : Int) (2 : Int))))
     (IntKind.i64.wrap
     ((1 : Int) +
     nextR l (nextN l (0 : Int)) (4 : Int)))
     l_1).getD
     (nextR l (nextN l (nextN l (0 : Int)))
     (@Nat.cast Int _
     (splitL
     (IntKind.u32.wrap
     (IntKind.i64.wrap
     ((1 : Int) +
     nextR l (0 : Int) (2 : Int))))
     (IntKind.i64.wrap
     ((1 : Int) +
     nextR l (nextN l (0 : Int)) (4 : Int)))
     l_1).length)).toNat
     default).2
     ((splitL
     (IntKind.u32.wrap
     (IntKind.i64.wrap
     ((1 : Int) + nextR l (0 : Int) (2 : Int))))
     (IntKind.i64.wrap
     ((1 : Int) +
     nextR l (nextN l (0 : Int)) (4 : Int)))
     l_1).getD
     (nextR l (nextN l (nextN l (0 : Int)))
     (@Nat.cast Int _
     (splitL
     (IntKind.u32.wrap
     (IntKind.i64.wrap
     ((1 : Int) +
     nextR l (0 : Int) (2 : Int))))
     (IntKind.i64.wrap
     ((1 : Int) +
     nextR l (nextN l (0 : Int)) (4 : Int)))
     l_1).length)).toNat
     default).3
     (IntKind.i64.wrap
     (((splitL
     (IntKind.u32.wrap
     (IntKind.i64.wrap
     ((1 : Int) +
     nextR l (0 : Int) (2 : Int))))
     (IntKind.i64.wrap
     ((1 : Int) +
     nextR l (nextN l (0 : Int)) (4 : Int)))
     l_1).getD
     (nextR l (nextN l (nextN l (0 : Int)))
     (@Nat.cast Int _
     (splitL
     (IntKind.u32.wrap
     (IntKind.i64.wrap
     ((1 : Int) +
     nextR l (0 : Int) (2 : Int))))
     (IntKind.i64.wrap
     ((1 : Int) +
     nextR l (nextN l (0 : Int))
     (4 : Int)))
     l_1).length)).toNat
     default).4 +
     (1 : Int)))
     ((splitL
     (IntKind.u32.wrap
     (IntKind.i64.wrap
     ((1 : Int) + nextR l (0 : Int) (2 : Int))))
     (IntKind.i64.wrap
     ((1 : Int) +
     nextR l (nextN l (0 : Int)) (4 : Int)))
     l_1).getD
     (nextR l (nextN l (nextN l (0 : Int)))
     (@Nat.cast Int _
     (splitL
     (IntKind.u32.wrap
     (IntKind.i64.wrap
     ((1 : Int) +
     nextR l (0 : Int) (2 : Int))))
     (IntKind.i64.wrap
     ((1 : Int) +
     nextR l (nextN l (0 : Int)) (4 : Int)))
     l_1).length)).toNat
     default).5
     ((splitL
     (IntKind.u32.wrap
     (IntKind.i64.wrap
     ((1 : Int) + nextR l (0 : Int) (2 : Int))))
     (IntKind.i64.wrap
     ((1 : Int) +
     nextR l (nextN l (0 : Int)) (4 : Int)))
     l_1).getD
     (nextR l (nextN l (nextN l (0 : Int)))
     (@Nat.cast Int _
     (splitL
     (IntKind.u32.wrap
     (IntKind.i64.wrap
     ((1 : Int) +
     nextR l (0 : Int) (2 : Int))))
     (IntKind.i64.wrap
     ((1 : Int) +
     nextR l (nextN l (0 : Int)) (4 : Int)))
     l_1).length)).toNat
     default).6)))
     (post (AV.bool false) none)
     (br
     (!strEq
     (joinR
     ((splitL
     (IntKind.u32.wrap
     (IntKind.i64.wrap
     ((1 : Int) + nextR l (0 : Int) (2 : Int))))
     (IntKind.i64.wrap
     ((1 : Int) +
     nextR l (nextN l (0 : Int)) (4 : Int)))
     l_1).set
     (nextR l (nextN l (nextN l (0 : Int)))
     (@Nat.cast Int _
     (splitL
     (IntKind.u32.wrap
     (IntKind.i64.wrap
     ((1 : Int) +
     nextR l (0 : Int) (2 : Int))))
     (IntKind.i64.wrap
     ((1 : Int) +
     nextR l (nextN l (0 : Int)) (4 : Int)))
     l_1).length)).toNat
     (Rec.mk
     ((splitL
     (IntKind.u32.wrap
     (IntKind.i64.wrap
     ((1 : Int) +
     nextR l (0 : Int) (2 : Int))))
     (IntKind.i64.wrap
     ((1 : Int) +
     nextR l (nextN l (0 : Int)) (4 : Int)))
     l_1).getD
     (nextR l (nextN l (nextN l (0 : Int)))
     (@Nat.cast Int _
     (splitL
     (IntKind.u32.wrap
     (IntKind.i64.wrap
     ((1 : Int) +
     nextR l (0 : Int) (2 : Int))))
     (IntKind.i64.wrap
     ((1 : Int) +
     nextR l (nextN l (0 : Int))
     (4 : Int)))
     l_1).length)).toNat
     default).1
     ((splitL
     (IntKind.u32.wrap
     (IntKind.i64.wrap
     ((1 : Int) +
     nextR l (0 : Int) (2 : Int))))
     (IntKind.i64.wrap
     ((1 : Int) +
     nextR l (nextN l (0 : Int)) (4 : Int)))
     l_1).getD
     (nextR l (nextN l (nextN l (0 : Int)))
     (@Nat.cast Int _
     (splitL
     (IntKind.u32.wrap
     (IntKind.i64.wrap
     ((1 : Int) +
     nextR l (0 : Int) (2 : Int))))
     (IntKind.i64.wrap
     ((1 : Int) +
     nextR l (nextN l (0 : Int))
     (4 : Int)))
     l_1).length)).toNat
     default).2
     ((splitL
     (IntKind.u32.wrap
     (IntKind.i64.wrap
     ((1 : Int) +
     nextR l (0 : Int) (2 : Int))))
     (IntKind.i64.wrap
     ((1 : Int) +
     nextR l (nextN l (0 : Int)) (4 : Int)))
     l_1).getD
     (nextR l (nextN l (nextN l (0 : Int)))
     (@Nat.cast Int _
     (splitL
     (IntKind.u32.wrap
     (IntKind.i64.wrap
     ((1 : Int) +
     nextR l (0 : Int) (2 : Int))))
     (IntKind.i64.wrap
     ((1 : Int) +
     nextR l (nextN l (0 : Int))
     (4 : Int)))
     l_1).length)).toNat
     default).3
     (IntKind.i64.wrap
     (((splitL
     (IntKind.u32.wrap
     (IntKind.i64.wrap
     ((1 : Int) +
     nextR l (0 : Int) (2 : Int))))
     (IntKind.i64.wrap
     ((1 : Int) +
     nextR l (nextN l (0 : Int))
     (4 : Int)))
     l_1).getD
     (nextR l (nextN l (nextN l (0 : Int)))
     (@Nat.cast Int _
     (splitL
     (IntKind.u32.wrap
     (IntKind.i64.wrap
     ((1 : Int) +
     nextR l (0 : Int)
     (2 : Int))))
     (IntKind.i64.wrap
     ((1 : Int) +
     nextR l (nextN l (0 : Int))
     (4 : Int)))
     l_1).length)).toNat
     default).4 +
     (1 : Int)))
     ((splitL
     (IntKind.u32.wrap
     (IntKind.i64.wrap
     ((1 : Int) +
     nextR l (0 : Int) (2 : Int))))
     (IntKind.i64.wrap
     ((1 : Int) +
     nextR l (nextN l (0 : Int)) (4 : Int)))
     l_1).getD
     (nextR l (nextN l (nextN l (0 : Int)))
     (@Nat.cast Int _
     (splitL
     (IntKind.u32.wrap
     (IntKind.i64.wrap
     ((1 : Int) +
     nextR l (0 : Int) (2 : Int))))
     (IntKind.i64.wrap
     ((1 : Int) +
     nextR l (nextN l (0 : Int))
     (4 : Int)))
     l_1).length)).toNat
     default).5
     ((splitL
     (IntKind.u32.wrap
     (IntKind.i64.wrap
     ((1 : Int) +
     nextR l (0 : Int) (2 : Int))))
     (IntKind.i64.wrap
     ((1 : Int) +
     nextR l (nextN l (0 : Int)) (4 : Int)))
     l_1).getD
     (nextR l (nextN l (nextN l (0 : Int)))
     (@Nat.cast Int _
     (splitL
     (IntKind.u32.wrap
     (IntKind.i64.wrap
     ((1 : Int) +
     nextR l (0 : Int) (2 : Int))))
     (IntKind.i64.wrap
     ((1 : Int) +
     nextR l (nextN l (0 : Int))
     (4 : Int)))
     l_1).length)).toNat
     default).6))).1
     (joinR
     ((splitL
     (IntKind.u32.wrap
     (IntKind.i64.wrap
     ((1 : Int) + nextR l (0 : Int) (2 : Int))))
     (IntKind.i64.wrap
     ((1 : Int) +
     nextR l (nextN l (0 : Int)) (4 : Int)))
     l_1).set
     (nextR l (nextN l (nextN l (0 : Int)))
     (@Nat.cast Int _
     (splitL
     (IntKind.u32.wrap
     (IntKind.i64.wrap
     ((1 : Int) +
     nextR l (0 : Int) (2 : Int))))
     (IntKind.i64.wrap
     ((1 : Int) +
     nextR l (nextN l (0 : Int)) (4 : Int)))
     l_1).length)).toNat
     (Rec.mk
     ((splitL
     (IntKind.u32.wrap
     (IntKind.i64.wrap
     ((1 : Int) +
     nextR l (0 : Int) (2 : Int))))
     (IntKind.i64.wrap
     ((1 : Int) +
     nextR l (nextN l (0 : Int)) (4 : Int)))
     l_1).getD
     (nextR l (nextN l (nextN l (0 : Int)))
     (@Nat.cast Int _
     (splitL
     (IntKind.u32.wrap
     (IntKind.i64.wrap
     ((1 : Int) +
     nextR l (0 : Int) (2 : Int))))
     (IntKind.i64.wrap
     ((1 : Int) +
     nextR l (nextN l (0 : Int))
     (4 : Int)))
     l_1).length)).toNat
     default).1
     ((splitL
     (IntKind.u32.wrap
     (IntKind.i64.wrap
     ((1 : Int) +
     nextR l (0 : Int) (2 : Int))))
     (IntKind.i64.wrap
     ((1 : Int) +
     nextR l (nextN l (0 : Int)) (4 : Int)))
     l_1).getD
     (nextR l (nextN l (nextN l (0 : Int)))
     (@Nat.cast Int _
     (splitL
     (IntKind.u32.wrap
     (IntKind.i64.wrap
     ((1 : Int) +
     nextR l (0 : Int) (2 : Int))))
     (IntKind.i64.wrap
     ((1 : Int) +
     nextR l (nextN l (0 : Int))
     (4 : Int)))
     l_1).length)).toNat
     default).2
     ((splitL
     (IntKind.u32.wrap
     (IntKind.i64.wrap
     ((1 : Int) +
     nextR l (0 : Int) (2 : Int))))
     (IntKind.i64.wrap
     ((1 : Int) +
     nextR l (nextN l (0 : Int)) (4 : Int)))
     l_1).getD
     (nextR l (nextN l (nextN l (0 : Int)))
     (@Nat.cast Int _
     (splitL
     (IntKind.u32.wrap
     (IntKind.i64.wrap
     ((1 : Int) +
     nextR l (0 : Int) (2 : Int))))
     (IntKind.i64.wrap
     ((1 : Int) +
     nextR l (nextN l (0 : Int))
     (4 : Int)))
     l_1).length)).toNat
     default).3
     (IntKind.i64.wrap
     (((splitL
     (IntKind.u32.wrap
     (IntKind.i64.wrap
     ((1 : Int) +
     nextR l (0 : Int) (2 : Int))))
     (IntKind.i64.wrap
     ((1 : Int) +
     nextR l (nextN l (0 : Int))
     (4 : Int)))
     l_1).getD
     (nextR l (nextN l (nextN l (0 : Int)))
     (@Nat.cast Int _
     (splitL
     (IntKind.u32.wrap
     (IntKind.i64.wrap
     ((1 : Int) +
     nextR l (0 : Int)
     (2 : Int))))
     (IntKind.i64.wrap
     ((1 : Int) +
     nextR l (nextN l (0 : Int))
     (4 : Int)))
     l_1).length)).toNat
     default).4 +
     (1 : Int)))
     ((splitL
     (IntKind.u32.wrap
     (IntKind.i64.wrap
     ((1 : Int) +
     nextR l (0 : Int) (2 : Int))))
     (IntKind.i64.wrap
     ((1 : Int) +
     nextR l (nextN l (0 : Int)) (4 : Int)))
     l_1).getD
     (nextR l (nextN l (nextN l (0 : Int)))
     (@Nat.cast Int _
     (splitL
     (IntKind.u32.wrap
     (IntKind.i64.wrap
     ((1 : Int) +
     nextR l (0 : Int) (2 : Int))))
     (IntKind.i64.wrap
     ((1 : Int) +
     nextR l (nextN l (0 : Int))
     (4 : Int)))
     l_1).length)).toNat
     default).5
     ((splitL
     (IntKind.u32.wrap
     (IntKind.i64.wrap
     ((1 : Int) +
     nextR l (0 : Int) (2 : Int))))
     (IntKind.i64.wrap
     ((1 : Int) +
     nextR l (nextN l (0 : Int)) (4 : Int)))
     l_1).getD
     (nextR l (nextN l (nextN l (0 : Int)))
     (@Nat.cast Int _
     (splitL
     (IntKind.u32.wrap
     (IntKind.i64.wrap
     ((1 : Int) +
     nextR l (0 : Int) (2 : Int))))
     (IntKind.i64.wrap
     ((1 : Int) +
     nextR l (nextN l (0 : Int))
     (4 : Int)))
     l_1).length)).toNat
     default).6))).1)
     (post (AV.bool false) none)
     (br
     (joinU
     ((splitL
     (IntKind.u32.wrap
     (IntKind.i64.wrap
     ((1 : Int) + nextR l (0 : Int) (2 : Int))))
     (IntKind.i64.wrap
     ((1 : Int) +
     nextR l (nextN l (0 : Int)) (4 : Int)))
     l_1).set
     (nextR l (nextN l (nextN l (0 : Int)))
     (@Nat.cast Int _
     (splitL
     (IntKind.u32.wrap
     (IntKind.i64.wrap
     ((1 : Int) +
     nextR l (0 : Int) (2 : Int))))
     (IntKind.i64.wrap
     ((1 : Int) +
     nextR l (nextN l (0 : Int)) (4 : Int)))
     l_1).length)).toNat
     (Rec.mk
     ((splitL
     (IntKind.u32.wrap
     (IntKind.i64.wrap
     ((1 : Int) +
     nextR l (0 : Int) (2 : Int))))
     (IntKind.i64.wrap
     ((1 : Int) +
     nextR l (nextN l (0 : Int)) (4 : Int)))
     l_1).getD
     (nextR l (nextN l (nextN l (0 : Int)))
     (@Nat.cast Int _
     (splitL
     (IntKind.u32.wrap
     (IntKind.i64.wrap
     ((1 : Int) +
     nextR l (0 : Int) (2 : Int))))
     (IntKind.i64.wrap
     ((1 : Int) +
     nextR l (nextN l (0 : Int))
     (4 : Int)))
     l_1).length)).toNat
     default).1
     ((splitL
     (IntKind.u32.wrap
     (IntKind.i64.wrap
     ((1 : Int) +
     nextR l (0 : Int) (2 : Int))))
     (IntKind.i64.wrap
     ((1 : Int) +
     nextR l (nextN l (0 : Int)) (4 : Int)))
     l_1).getD
     (nextR l (nextN l (nextN l (0 : Int)))
     (@Nat.cast Int _
     (splitL
     (IntKind.u32.wrap
     (IntKind.i64.wrap
     ((1 : Int) +
     nextR l (0 : Int) (2 : Int))))
     (IntKind.i64.wrap
     ((1 : Int) +
     nextR l (nextN l (0 : Int))
     (4 : Int)))
     l_1).length)).toNat
     default).2
     ((splitL
     (IntKind.u32.wrap
     (IntKind.i64.wrap
     ((1 : Int) +
     nextR l (0 : Int) (2 : Int))))
     (IntKind.i64.wrap
     ((1 : Int) +
     nextR l (nextN l (0 : Int)) (4 : Int)))
     l_1).getD
     (nextR l (nextN l (nextN l (0 : Int)))
     (@Nat.cast Int _
     (splitL
     (IntKind.u32.wrap
     (IntKind.i64.wrap
     ((1 : Int) +
     nextR l (0 : Int) (2 : Int))))
     (IntKind.i64.wrap
     ((1 : Int) +
     nextR l (nextN l (0 : Int))
     (4 : Int)))
     l_1).length)).toNat
     default).3
     (IntKind.i64.wrap
     (((splitL
     (IntKind.u32.wrap
     (IntKind.i64.wrap
     ((1 : Int) +
     nextR l (0 : Int) (2 : Int))))
     (IntKind.i64.wrap
     ((1 : Int) +
     nextR l (nextN l (0 : Int))
     (4 : Int)))
     l_1).getD
     (nextR l (nextN l (nextN l (0 : Int)))
     (@Nat.cast Int _
     (splitL
     (IntKind.u32.wrap
     (IntKind.i64.wrap
     ((1 : Int) +
     nextR l (0 : Int) (2 : Int))))
     (IntKind.i64.wrap
     ((1 : Int) +
     nextR l (nextN l (0 : Int))
     (4 : Int)))
     l_1).length)).toNat
     default).4 +
     (1 : Int)))
     ((splitL
     (IntKind.u32.wrap
     (IntKind.i64.wrap
     ((1 : Int) +
     nextR l (0 : Int) (2 : Int))))
     (IntKind.i64.wrap
     ((1 : Int) +
     nextR l (nextN l (0 : Int)) (4 : Int)))
     l_1).getD
     (nextR l (nextN l (nextN l (0 : Int)))
     (@Nat.cast Int _
     (splitL
     (IntKind.u32.wrap
     (IntKind.i64.wrap
     ((1 : Int) +
     nextR l (0 : Int) (2 : Int))))
     (IntKind.i64.wrap
     ((1 : Int) +
     nextR l (nextN l (0 : Int))
     (4 : Int)))
     l_1).length)).toNat
     default).5
     ((splitL
     (IntKind.u32.wrap
     (IntKind.i64.wrap
     ((1 : Int) +
     nextR l (0 : Int) (2 : Int))))
     (IntKind.i64.wrap
     ((1 : Int) +
     nextR l (nextN l (0 : Int)) (4 : Int)))
     l_1).getD
     (nextR l (nextN l (nextN l (0 : Int)))
     (@Nat.cast Int _
     (splitL
     (IntKind.u32.wrap
     (IntKind.i64.wrap
     ((1 : Int) +
     nextR l (0 : Int) (2 : Int))))
     (IntKind.i64.wrap
     ((1 : Int) +
     nextR l (nextN l (0 : Int))
     (4 : Int)))
     l_1).length)).toNat
     default).6)) !=
     joinU
     ((splitL
     (IntKind.u32.wrap
     (IntKind.i64.wrap
     ((1 : Int) + nextR l (0 : Int) (2 : Int))))
     (IntKind.i64.wrap
     ((1 : Int) +
     nextR l (nextN l (0 : Int)) (4 : Int)))
     l_1).set
     (nextR l (nextN l (nextN l (0 : Int)))
     (@Nat.cast Int _
     (splitL
     (IntKind.u32.wrap
     (IntKind.i64.wrap
     ((1 : Int) +
     nextR l (0 : Int) (2 : Int))))
     (IntKind.i64.wrap
     ((1 : Int) +
     nextR l (nextN l (0 : Int)) (4 : Int)))
     l_1).length)).toNat
     (Rec.mk
     ((splitL
     (IntKind.u32.wrap
     (IntKind.i64.wrap
     ((1 : Int) +
     nextR l (0 : Int) (2 : Int))))
     (IntKind.i64.wrap
     ((1 : Int) +
     nextR l (nextN l (0 : Int)) (4 : Int)))
     l_1).getD
     (nextR l (nextN l (nextN l (0 : Int)))
     (@Nat.cast Int _
     (splitL
     (IntKind.u32.wrap
     (IntKind.i64.wrap
     ((1 : Int) +
     nextR l (0 : Int) (2 : Int))))
     (IntKind.i64.wrap
     ((1 : Int) +
     nextR l (nextN l (0 : Int))
     (4 : Int)))
     l_1).length)).toNat
     default).1
     ((splitL
     (IntKind.u32.wrap
     (IntKind.i64.wrap
     ((1 : Int) +
     nextR l (0 : Int) (2 : Int))))
     (IntKind.i64.wrap
     ((1 : Int) +
     nextR l (nextN l (0 : Int)) (4 : Int)))
     l_1).getD
     (nextR l (nextN l (nextN l (0 : Int)))
     (@Nat.cast Int _
     (splitL
     (IntKind.u32.wrap
     (IntKind.i64.wrap
     ((1 : Int) +
     nextR l (0 : Int) (2 : Int))))
     (IntKind.i64.wrap
     ((1 : Int) +
     nextR l (nextN l (0 : Int))
     (4 : Int)))
     l_1).length)).toNat
     default).2
     ((splitL
     (IntKind.u32.wrap
     (IntKind.i64.wrap
     ((1 : Int) +
     nextR l (0 : Int) (2 : Int))))
     (IntKind.i64.wrap
     ((1 : Int) +
     nextR l (nextN l (0 : Int)) (4 : Int)))
     l_1).getD
     (nextR l (nextN l (nextN l (0 : Int)))
     (@Nat.cast Int _
     (splitL
     (IntKind.u32.wrap
     (IntKind.i64.wrap
     ((1 : Int) +
     nextR l (0 : Int) (2 : Int))))
     (IntKind.i64.wrap
     ((1 : Int) +
     nextR l (nextN l (0 : Int))
     (4 : Int)))
     l_1).length)).toNat
     default).3
     (IntKind.i64.wrap
     (((splitL
     (IntKind.u32.wrap
     (IntKind.i64.wrap
     ((1 : Int) +
     nextR l (0 : Int) (2 : Int))))
     (IntKind.i64.wrap
     ((1 : Int) +
     nextR l (nextN l (0 : Int))
     (4 : Int)))
     l_1).getD
     (nextR l (nextN l (nextN l (0 : Int)))
     (@Nat.cast Int _
     (splitL
     (IntKind.u32.wrap
     (IntKind.i64.wrap
     ((1 : Int) +
     nextR l (0 : Int) (2 : Int))))
     (IntKind.i64.wrap
     ((1 : Int) +
     nextR l (nextN l (0 : Int))
     (4 : Int)))
     l_1).length)).toNat
     default).4 +
     (1 : Int)))
     ((splitL
     (IntKind.u32.wrap
     (IntKind.i64.wrap
     ((1 : Int) +
     nextR l (0 : Int) (2 : Int))))
     (IntKind.i64.wrap
     ((1 : Int) +
     nextR l (nextN l (0 : Int)) (4 : Int)))
     l_1).getD
     (nextR l (nextN l (nextN l (0 : Int)))
     (@Nat.cast Int _
     (splitL
     (IntKind.u32.wrap
     (IntKind.i64.wrap
     ((1 : Int) +
     nextR l (0 : Int) (2 : Int))))
     (IntKind.i64.wrap
     ((1 : Int) +
     nextR l (nextN l (0 : Int))
     (4 : Int)))
     l_1).length)).toNat
     default).5
     ((splitL
     (IntKind.u32.wrap
     (IntKind.i64.wrap
     ((1 : Int) +
     nextR l (0 : Int) (2 : Int))))
     (IntKind.i64.wrap
     ((1 : Int) +
     nextR l (nextN l (0 : Int)) (4 : Int)))
     l_1).getD
     (nextR l (nextN l (nextN l (0 : Int)))
     (@Nat.cast Int _
     (splitL
     (IntKind.u32.wrap
     (IntKind.i64.wrap
     ((1 : Int) +
     nextR l (0 : Int) (2 : Int))))
     (IntKind.i64.wrap
     ((1 : Int) +
     nextR l (nextN l (0 : Int))
     (4 : Int)))
     l_1).length)).toNat
     default).6)))
     (post (AV.bool false) none)
     (br
     ((joinR
     ((splitL
     (IntKind.u32.wrap
     (IntKind.i64.wrap
     ((1 : Int) + nextR l (0 : Int) (2 : Int))))
     (IntKind.i64.wrap
     ((1 : Int) +
     nextR l (nextN l (0 : Int)) (4 : Int)))
     l_1).set
     (nextR l (nextN l (nextN l (0 : Int)))
     (@Nat.cast Int _
     (splitL
     (IntKind.u32.wrap
     (IntKind.i64.wrap
     ((1 : Int) +
     nextR l (0 : Int) (2 : Int))))
     (IntKind.i64.wrap
     ((1 : Int) +
     nextR l (nextN l (0 : Int))
     (4 : Int)))
     l_1).length)).toNat
     (Rec.mk
     ((splitL
     (IntKind.u32.wrap
     (IntKind.i64.wrap
     ((1 : Int) +
     nextR l (0 : Int) (2 : Int))))
     (IntKind.i64.wrap
     ((1 : Int) +
     nextR l (nextN l (0 : Int))
     (4 : Int)))
     l_1).getD
     (nextR l (nextN l (nextN l (0 : Int)))
     (@Nat.cast Int _
     (splitL
     (IntKind.u32.wrap
     (IntKind.i64.wrap
     ((1 : Int) +
     nextR l (0 : Int) (2 : Int))))
     (IntKind.i64.wrap
     ((1 : Int) +
     nextR l (nextN l (0 : Int))
     (4 : Int)))
     l_1).length)).toNat
     default).1
     ((splitL
     (IntKind.u32.wrap
     (IntKind.i64.wrap
     ((1 : Int) +
     nextR l (0 : Int) (2 : Int))))
     (IntKind.i64.wrap
     ((1 : Int) +
     nextR l (nextN l (0 : Int))
     (4 : Int)))
     l_1).getD
     (nextR l (nextN l (nextN l (0 : Int)))
     (@Nat.cast Int _
     (splitL
     (IntKind.u32.wrap
     (IntKind.i64.wrap
     ((1 : Int) +
     nextR l (0 : Int) (2 : Int))))
     (IntKind.i64.wrap
     ((1 : Int) +
     nextR l (nextN l (0 : Int))
     (4 : Int)))
     l_1).length)).toNat
     default).2
     ((splitL
     (IntKind.u32.wrap
     (IntKind.i64.wrap
     ((1 : Int) +
     nextR l (0 : Int) (2 : Int))))
     (IntKind.i64.wrap
     ((1 : Int) +
     nextR l (nextN l (0 : Int))
     (4 : Int)))
     l_1).getD
     (nextR l (nextN l (nextN l (0 : Int)))
     (@Nat.cast Int _
     (splitL
     (IntKind.u32.wrap
     (IntKind.i64.wrap
     ((1 : Int) +
     nextR l (0 : Int) (2 : Int))))
     (IntKind.i64.wrap
     ((1 : Int) +
     nextR l (nextN l (0 : Int))
     (4 : Int)))
     l_1).length)).toNat
     default).3
     (IntKind.i64.wrap
     (((splitL
     (IntKind.u32.wrap
     (IntKind.i64.wrap
     ((1 : Int) +
     nextR l (0 : Int) (2 : Int))))
     (IntKind.i64.wrap
     ((1 : Int) +
     nextR l (nextN l (0 : Int))
     (4 : Int)))
     l_1).getD
     (nextR l (nextN l (nextN l (0 : Int)))
     (@Nat.cast Int _
     (splitL
     (IntKind.u32.wrap
     (IntKind.i64.wrap
     ((1 : Int) +
     nextR l (0 : Int)
     (2 : Int))))
     (IntKind.i64.wrap
     ((1 : Int) +
     nextR l (nextN l (0 : Int))
     (4 : Int)))
     l_1).length)).toNat
     default).4 +
     (1 : Int)))
     ((splitL
     (IntKind.u32.wrap
     (IntKind.i64.wrap
     ((1 : Int) +
     nextR l (0 : Int) (2 : Int))))
     (IntKind.i64.wrap
     ((1 : Int) +
     nextR l (nextN l (0 : Int))
     (4 : Int)))
     l_1).getD
     (nextR l (nextN l (nextN l (0 : Int)))
     (@Nat.cast Int _
     (splitL
     (IntKind.u32.wrap
     (IntKind.i64.wrap
     ((1 : Int) +
     nextR l (0 : Int) (2 : Int))))
     (IntKind.i64.wrap
     ((1 : Int) +
     nextR l (nextN l (0 : Int))
     (4 : Int)))
     l_1).length)).toNat
     default).5
     ((splitL
     (IntKind.u32.wrap
     (IntKind.i64.wrap
     ((1 : Int) +
     nextR l (0 : Int) (2 : Int))))
     (IntKind.i64.wrap
     ((1 : Int) +
     nextR l (nextN l (0 : Int))
     (4 : Int)))
     l_1).getD
     (nextR l (nextN l (nextN l (0 : Int)))
     (@Nat.cast Int _
     (splitL
     (IntKind.u32.wrap
     (IntKind.i64.wrap
     ((1 : Int) +
     nextR l (0 : Int) (2 : Int))))
     (IntKind.i64.wrap
     ((1 : Int) +
     nextR l (nextN l (0 : Int))
     (4 : Int)))
     l_1).length)).toNat
     default).6))).2 !=
     (joinR
     ((splitL
     (IntKind.u32.wrap
     (IntKind.i64.wrap
     ((1 : Int) + nextR l (0 : Int) (2 : Int))))
     (IntKind.i64.wrap
     ((1 : Int) +
     nextR l (nextN l (0 : Int)) (4 : Int)))
     l_1).set
     (nextR l (nextN l (nextN l (0 : Int)))
     (@Nat.cast Int _
     (splitL
     (IntKind.u32.wrap
     (IntKind.i64.wrap
     ((1 : Int) +
     nextR l (0 : Int) (2 : Int))))
     (IntKind.i64.wrap
     ((1 : Int) +
     nextR l (nextN l (0 : Int))
     (4 : Int)))
     l_1).length)).toNat
     (Rec.mk
     ((splitL
     (IntKind.u32.wrap
     (IntKind.i64.wrap
     ((1 : Int) +
     nextR l (0 : Int) (2 : Int))))
     (IntKind.i64.wrap
     ((1 : Int) +
     nextR l (nextN l (0 : Int))
     (4 : Int)))
     l_1).getD
     (nextR l (nextN l (nextN l (0 : Int)))
     (@Nat.cast Int _
     (splitL
     (IntKind.u32.wrap
     (IntKind.i64.wrap
     ((1 : Int) +
     nextR l (0 : Int) (2 : Int))))
     (IntKind.i64.wrap
     ((1 : Int) +
     nextR l (nextN l (0 : Int))
     (4 : Int)))
     l_1).length)).toNat
     default).1
     ((splitL
     (IntKind.u32.wrap
     (IntKind.i64.wrap
     ((1 : Int) +
     nextR l (0 : Int) (2 : Int))))
     (IntKind.i64.wrap
     ((1 : Int) +
     nextR l (nextN l (0 : Int))
     (4 : Int)))
     l_1).getD
     (nextR l (nextN l (nextN l (0 : Int)))
     (@Nat.cast Int _
     (splitL
     (IntKind.u32.wrap
     (IntKind.i64.wrap
     ((1 : Int) +
     nextR l (0 : Int) (2 : Int))))
     (IntKind.i64.wrap
     ((1 : Int) +
     nextR l (nextN l (0 : Int))
     (4 : Int)))
     l_1).length)).toNat
     default).2
     ((splitL
     (IntKind.u32.wrap
     (IntKind.i64.wrap
     ((1 : Int) +
     nextR l (0 : Int) (2 : Int))))
     (IntKind.i64.wrap
     ((1 : Int) +
     nextR l (nextN l (0 : Int))
     (4 : Int)))
     l_1).getD
     (nextR l (nextN l (nextN l (0 : Int)))
     (@Nat.cast Int _
     (splitL
     (IntKind.u32.wrap
     (IntKind.i64.wrap
     ((1 : Int) +
     nextR l (0 : Int) (2 : Int))))
     (IntKind.i64.wrap
     ((1 : Int) +
     nextR l (nextN l (0 : Int))
     (4 : Int)))
     l_1).length)).toNat
     default).3
     (IntKind.i64.wrap
     (((splitL
     (IntKind.u32.wrap
     (IntKind.i64.wrap
     ((1 : Int) +
     nextR l (0 : Int) (2 : Int))))
     (IntKind.i64.wrap
     ((1 : Int) +
     nextR l (nextN l (0 : Int))
     (4 : Int)))
     l_1).getD
     (nextR l (nextN l (nextN l (0 : Int)))
     (@Nat.cast Int _
     (splitL
     (IntKind.u32.wrap
     (IntKind.i64.wrap
     ((1 : Int) +
     nextR l (0 : Int)
     (2 : Int))))
     (IntKind.i64.wrap
     ((1 : Int) +
     nextR l (nextN l (0 : Int))
     (4 : Int)))
     l_1).length)).toNat
     default).4 +
     (1 : Int)))
     ((splitL
     (IntKind.u32.wrap
     (IntKind.i64.wrap
     ((1 : Int) +
     nextR l (0 : Int) (2 : Int))))
     (IntKind.i64.wrap
     ((1 : Int) +
     nextR l (nextN l (0 : Int))
     (4 : Int)))
     l_1).getD
     (nextR l (nextN l (nextN l (0 : Int)))
     (@Nat.cast Int _
     (splitL
     (IntKind.u32.wrap
     (IntKind.i64.wrap
     ((1 : Int) +
     nextR l (0 : Int) (2 : Int))))
     (IntKind.i64.wrap
     ((1 : Int) +
     nextR l (nextN l (0 : Int))
     (4 : Int)))
     l_1).length)).toNat
     default).5
     ((splitL
     (IntKind.u32.wrap
     (IntKind.i64.wrap
     ((1 : Int) +
     nextR l (0 : Int) (2 : Int))))
     (IntKind.i64.wrap
     ((1 : Int) +
     nextR l (nextN l (0 : Int))
     (4 : Int)))
     l_1).getD
     (nextR l (nextN l (nextN l (0 : Int)))
     (@Nat.cast Int _
     (splitL
     (IntKind.u32.wrap
     (IntKind.i64.wrap
     ((1 : Int) +
     nextR l (0 : Int) (2 : Int))))
     (IntKind.i64.wrap
     ((1 : Int) +
     nextR l (nextN l (0 : Int))
     (4 : Int)))
     l_1).length)).toNat
     default).6))).2)
     (post (AV.bool false) none)
     (post (AV.bool true) none)))))))))))))))))
     (br (nextR l (nextN l (nextN l (nextN l (0 : Int)))) (7 : Int) == (2 : Int))
     (chk
     (inB
     (nextR l (nextN l (nextN l (0 : Int)))
     (@Nat.cast Int _
     (splitL
     (IntKind.u32.wrap
     (IntKind.i64.wrap ((1 : Int) + nextR l (0 : Int) (2 : Int))))
     (IntKind.i64.wrap ((1 : Int) + nextR l (nextN l (0 : Int)) (4 : Int)))
     l_1).length))
     (splitL
     (IntKind.u32.wrap (IntKind.i64.wrap ((1 : Int) + nextR l (0 : Int) (2 : Int))))
     (IntKind.i64.wrap ((1 : Int) + nextR l (nextN l (0 : Int)) (4 : Int)))
     l_1).length)
     (chk
     (decide
     ((nextR l (nextN l (nextN l (0 : Int)))
     (@Nat.cast Int _
     (splitL
     (IntKind.u32.wrap
     (IntKind.i64.wrap ((1 : Int) + nextR l (0 : Int) (2 : Int))))
     (IntKind.i64.wrap ((1 : Int) + nextR l (nextN l (0 : Int)) (4 : Int)))
     l_1).length)).toNat <
     (splitL
     (IntKind.u32.wrap
     (IntKind.i64.wrap ((1 : Int) + nextR l (0 : Int) (2 : Int))))
     (IntKind.i64.wrap ((1 : Int) + nextR l (nextN l (0 : Int)) (4 : Int)))
     l_1).length))
     (chk
     (inB
     (nextR l (nextN l (nextN l (0 : Int)))
     (@Nat.cast Int _
     (splitL
     (IntKind.u32.wrap
     (IntKind.i64.wrap ((1 : Int) + nextR l (0 : Int) (2 : Int))))
     (IntKind.i64.wrap ((1 : Int) + nextR l (nextN l (0 : Int)) (4 : Int)))
     l_1).length))
     (splitL
     (IntKind.u32.wrap
     (IntKind.i64.wrap ((1 : Int) + nextR l (0 : Int) (2 : Int))))
     (IntKind.i64.wrap ((1 : Int) + nextR l (nextN l (0 : Int)) (4 : Int)))
     l_1).length)
     (chk
     (decide
     ((nextR l (nextN l (nextN l (0 : Int)))
     (@Nat.cast Int _
     (splitL
     (IntKind.u32.wrap
     (IntKind.i64.wrap ((1 : Int) + nextR l (0 : Int) (2 : Int))))
     (IntKind.i64.wrap
     ((1 : Int) + nextR l (nextN l (0 : Int)) (4 : Int)))
     l_1).length)).toNat <
     (splitL
     (IntKind.u32.wrap
     (IntKind.i64.wrap ((1 : Int) + nextR l (0 : Int) (2 : Int))))
     (IntKind.i64.wrap ((1 : Int) + nextR l (nextN l (0 : Int)) (4 : Int)))
     l_1).length))
     (br (joinC ps != joinC ps) (post (AV.bool false) none)
     (br (!strEq (joinR ps).1 (joinR ps).1) (post (AV.bool false) none)
     (br (joinU ps != joinU ps) (post (AV.bool false) none)
     (br ((joinR ps).2 != (joinR ps).2) (post (AV.bool false) none)
     (br
     (joinC
     (splitL
     (IntKind.u32.wrap
     (IntKind.i64.wrap ((1 : Int) + nextR l (0 : Int) (2 : Int))))
     (IntKind.i64.wrap
     ((1 : Int) + nextR l (nextN l (0 : Int)) (4 : Int)))
     l_1) !=
     joinC
     (splitL
     (IntKind.u32.wrap
     (IntKind.i64.wrap ((1 : Int) + nextR l (0 : Int) (2 : Int))))
     (IntKind.i64.wrap
     ((1 : Int) + nextR l (nextN l (0 : Int)) (4 : Int)))
     l_1))
     (post (AV.bool false) none)
     (br
     (!strEq
     (joinR
     (splitL
     (IntKind.u32.wrap
     (IntKind.i64.wrap
     ((1 : Int) + nextR l (0 : Int) (2 : Int))))
     (IntKind.i64.wrap
     ((1 : Int) + nextR l (nextN l (0 : Int)) (4 : Int)))
     l_1)).1
     (joinR
     (splitL
     (IntKind.u32.wrap
     (IntKind.i64.wrap
     ((1 : Int) + nextR l (0 : Int) (2 : Int))))
     (IntKind.i64.wrap
     ((1 : Int) + nextR l (nextN l (0 : Int)) (4 : Int)))
     l_1)).1)
     (post (AV.bool false) none)
     (br
     (joinU
     (splitL
     (IntKind.u32.wrap
     (IntKind.i64.wrap
     ((1 : Int) + nextR l (0 : Int) (2 : Int))))
     (IntKind.i64.wrap
     ((1 : Int) + nextR l (nextN l (0 : Int)) (4 : Int)))
     l_1) !=
     joinU
     (splitL
     (IntKind.u32.wrap
     (IntKind.i64.wrap
     ((1 : Int) + nextR l (0 : Int) (2 : Int))))
     (IntKind.i64.wrap
     ((1 : Int) + nextR l (nextN l (0 : Int)) (4 : Int)))
     l_1))
     (post (AV.bool false) none)
     (br
     ((joinR
     (splitL
     (IntKind.u32.wrap
     (IntKind.i64.wrap
     ((1 : Int) + nextR l (0 : Int) (2 : Int))))
     (IntKind.i64.wrap
     ((1 : Int) + nextR l (nextN l (0 : Int)) (4 : Int)))
     l_1)).2 !=
     (joinR
     (splitL
     (IntKind.u32.wrap
     (IntKind.i64.wrap
     ((1 : Int) + nextR l (0 : Int) (2 : Int))))
     (IntKind.i64.wrap
     ((1 : Int) + nextR l (nextN l (0 : Int)) (4 : Int)))
     l_1)).2)
     (post (AV.bool false) none)
     (br
     (joinC
     ((splitL
     (IntKind.u32.wrap
     (IntKind.i64.wrap
     ((1 : Int) + nextR l (0 : Int) (2 : Int))))
     (IntKind.i64.wrap
     ((1 : Int) + nextR l (nextN l (0 : Int)) (4 : Int)))
     l_1).set
     (nextR l (nextN l (nextN l (0 : Int)))
     (@Nat.cast Int _
     (splitL
     (IntKind.u32.wrap
     (IntKind.i64.wrap
     ((1 : Int) + nextR l (0 : Int) (2 : Int))))
     (IntKind.i64.wrap
     ((1 : Int) +
     nextR l (nextN l (0 : Int)) (4 : Int)))
     l_1).length)).toNat
     (Rec.mk
     ((splitL
     (IntKind.u32.wrap
     (IntKind.i64.wrap
     ((1 : Int) + nextR l (0 : Int) (2 : Int))))
     (IntKind.i64.wrap
     ((1 : Int) +
     nextR l (nextN l (0 : Int)) (4 : Int)))
     l_1).getD
     (nextR l (nextN l (nextN l (0 : Int)))
     (@Nat.cast Int _
     (splitL
     (IntKind.u32.wrap
     (IntKind.i64.wrap
     ((1 : Int) +
     nextR l (0 : Int) (2 : Int))))
     (IntKind.i64.wrap
     ((1 : Int) +
     nextR l (nextN l (0 : Int))
     (4 : Int)))
     l_1).length)).toNat
     default).1
     ((splitL
     (IntKind.u32.wrap
     (IntKind.i64.wrap
     ((1 : Int) + nextR l (0 : Int) (2 : Int))))
     (IntKind.i64.wrap
     ((1 : Int) +
     nextR l (nextN l (0 : Int)) (4 : Int)))
     l_1).getD
     (nextR l (nextN l (nextN l (0 : Int)))
     (@Nat.cast Int _
     (splitL
     (IntKind.u32.wrap
     (IntKind.i64.wrap
     ((1 : Int) +
     nextR l (0 : Int) (2 : Int))))
     (IntKind.i64.wrap
     ((1 : Int) +
     nextR l (nextN l (0 : Int))
     (4 : Int)))
     l_1).length)).toNat
     default).2
     ((splitL
     (IntKind.u32.wrap
     (IntKind.i64.wrap
     ((1 : Int) + nextR l (0 : Int) (2 : Int))))
     (IntKind.i64.wrap
     ((1 : Int) +
     nextR l (nextN l (0 : Int)) (4 : Int)))
     l_1).getD
     (nextR l (nextN l (nextN l (0 : Int)))
     (@Nat.cast Int _
     (splitL
     (IntKind.u32.wrap
     (IntKind.i64.wrap
     ((1 : Int) +
     nextR l (0 : Int) (2 : Int))))
     (IntKind.i64.wrap
     ((1 : Int) +
     nextR l (nextN l (0 : Int))
     (4 : Int)))
     l_1).length)).toNat
     default).3
     ((splitL
     (IntKind.u32.wrap
     (IntKind.i64.wrap
     ((1 : Int) + nextR l (0 : Int) (2 : Int))))
     (IntKind.i64.wrap
     ((1 : Int) +
     nextR l (nextN l (0 : Int)) (4 : Int)))
     l_1).getD
     (nextR l (nextN l (nextN l (0 : Int)))
     (@Nat.cast Int _
     (splitL
     (IntKind.u32.wrap
     (IntKind.i64.wrap
     ((1 : Int) +
     nextR l (0 : Int) (2 : Int))))
     (IntKind.i64.wrap
     ((1 : Int) +
     nextR l (nextN l (0 : Int))
     (4 : Int)))
     l_1).length)).toNat
     default).4
     (!((splitL
     (IntKind.u32.wrap
     (IntKind.i64.wrap
     ((1 : Int) +
     nextR l (0 : Int) (2 : Int))))
     (IntKind.i64.wrap
     ((1 : Int) +
     nextR l (nextN l (0 : Int)) (4 : Int)))
     l_1).getD
     (nextR l (nextN l (nextN l (0 : Int)))
     (@Nat.cast Int _
     (splitL
     (IntKind.u32.wrap
     (IntKind.i64.wrap
     ((1 : Int) +
     nextR l (0 : Int) (2 : Int))))
     (IntKind.i64.wrap
     ((1 : Int) +
     nextR l (nextN l (0 : Int))
     (4 : Int)))
     l_1).length)).toNat
     default).5)
     ((splitL
     (IntKind.u32.wrap
     (IntKind.i64.wrap
     ((1 : Int) + nextR l (0 : Int) (2 : Int))))
     (IntKind.i64.wrap
     ((1 : Int) +
     nextR l (nextN l (0 : Int)) (4 : Int)))
     l_1).getD
     (nextR l (nextN l (nextN l (0 : Int)))
     (@Nat.cast Int _
     (splitL
     (IntKind.u32.wrap
     (IntKind.i64.wrap
     ((1 : Int) +
     nextR l (0 : Int) (2 : Int))))
     (IntKind.i64.wrap
     ((1 : Int) +
     nextR l (nextN l (0 : Int))
     (4 : Int)))
     l_1).length)).toNat
     default).6)) !=
     joinC
     ((splitL
     (IntKind.u32.wrap
     (IntKind.i64.wrap
     ((1 : Int) + nextR l (0 : Int) (2 : Int))))
     (IntKind.i64.wrap
     ((1 : Int) + nextR l (nextN l (0 : Int)) (4 : Int)))
     l_1).set
     (nextR l (nextN l (nextN l (0 : Int)))
     (@Nat.cast Int _
     (splitL
     (IntKind.u32.wrap
     (IntKind.i64.wrap
     ((1 : Int) + nextR l (0 : Int) (2 : Int))))
     (IntKind.i64.wrap
     ((1 : Int) +
     nextR l (nextN l (0 : Int)) (4 : Int)))
     l_1).length)).toNat
     (Rec.mk
     ((splitL
     (IntKind.u32.wrap
     (IntKind.i64.wrap
     ((1 : Int) + nextR l (0 : Int) (2 : Int))))
     (IntKind.i64.wrap
     ((1 : Int) +
     nextR l (nextN l (0 : Int)) (4 : Int)))
     l_1).getD
     (nextR l (nextN l (nextN l (0 : Int)))
     (@Nat.cast Int _
     (splitL
     (IntKind.u32.wrap
     (IntKind.i64.wrap
     ((1 : Int) +
     nextR l (0 : Int) (2 : Int))))
     (IntKind.i64.wrap
     ((1 : Int) +
     nextR l (nextN l (0 : Int))
     (4 : Int)))
     l_1).length)).toNat
     default).1
     ((splitL
     (IntKind.u32.wrap
     (IntKind.i64.wrap
     ((1 : Int) + nextR l (0 : Int) (2 : Int))))
     (IntKind.i64.wrap
     ((1 : Int) +
     nextR l (nextN l (0 : Int)) (4 : Int)))
     l_1).getD
     (nextR l (nextN l (nextN l (0 : Int)))
     (@Nat.cast Int _
     (splitL
     (IntKind.u32.wrap
     (IntKind.i64.wrap
     ((1 : Int) +
     nextR l (0 : Int) (2 : Int))))
     (IntKind.i64.wrap
     ((1 : Int) +
     nextR l (nextN l (0 : Int))
     (4 : Int)))
     l_1).length)).toNat
     default).2
     ((splitL
     (IntKind.u32.wrap
     (IntKind.i64.wrap
     ((1 : Int) + nextR l (0 : Int) (2 : Int))))
     (IntKind.i64.wrap
     ((1 : Int) +
     nextR l (nextN l (0 : Int)) (4 : Int)))
     l_1).getD
     (nextR l (nextN l (nextN l (0 : Int)))
     (@Nat.cast Int _
     (splitL
     (IntKind.u32.wrap
     (IntKind.i64.wrap
     ((1 : Int) +
     nextR l (0 : Int) (2 : Int))))
     (IntKind.i64.wrap
     ((1 : Int) +
     nextR l (nextN l (0 : Int))
     (4 : Int)))
     l_1).length)).toNat
     default).3
     ((splitL
     (IntKind.u32.wrap
     (IntKind.i64.wrap
     ((1 : Int) + nextR l (0 : Int) (2 : Int))))
     (IntKind.i64.wrap
     ((1 : Int) +
     nextR l (nextN l (0 : Int)) (4 : Int)))
     l_1).getD
     (nextR l (nextN l (nextN l (0 : Int)))
     (@Nat.cast Int _
     (splitL
     (IntKind.u32.wrap
     (IntKind.i64.wrap
     ((1 : Int) +
     nextR l (0 : Int) (2 : Int))))
     (IntKind.i64.wrap
     ((1 : Int) +
     nextR l (nextN l (0 : Int))
     (4 : Int)))
     l_1).length)).toNat
     default).4
     (!((splitL
     (IntKind.u32.wrap
     (IntKind.i64.wrap
     ((1 : Int) +
     nextR l (0 : Int) (2 : Int))))
     (IntKind.i64.wrap
     ((1 : Int) +
     nextR l (nextN l (0 : Int)) (4 : Int)))
     l_1).getD
     (nextR l (nextN l (nextN l (0 : Int)))
     (@Nat.cast Int _
     (splitL
     (IntKind.u32.wrap
     (IntKind.i64.wrap
     ((1 : Int) +
     nextR l (0 : Int) (2 : Int))))
     (IntKind.i64.wrap
     ((1 : Int) +
     nextR l (nextN l (0 : Int))
     (4 : Int)))
     l_1).length)).toNat
     default).5)
     ((splitL
     (IntKind.u32.wrap
     (IntKind.i64.wrap
     ((1 : Int) + nextR l (0 : Int) (2 : Int))))
     (IntKind.i64.wrap
     ((1 : Int) +
     nextR l (nextN l (0 : Int)) (4 : Int)))
     l_1).getD
     (nextR l (nextN l (nextN l (0 : Int)))
     (@Nat.cast Int _
     (splitL
     (IntKind.u32.wrap
     (IntKind.i64.wrap
     ((1 : Int) +
     nextR l (0 : Int) (2 : Int))))
     (IntKind.i64.wrap
     ((1 : Int) +
     nextR l (nextN l (0 : Int))
     (4 : Int)))
     l_1).length)).toNat
     default).6)))
     (post (AV.bool false) none)
     (br
     (!strEq
     (joinR
     ((splitL
     (IntKind.u32.wrap
     (IntKind.i64.wrap
     ((1 : Int) + nextR l (0 : Int) (2 : Int))))
     (IntKind.i64.wrap
     ((1 : Int) +
     nextR l (nextN l (0 : Int)) (4 : Int)))
     l_1).set
     (nextR l (nextN l (nextN l (0 : Int)))
     (@Nat.cast Int _
     (splitL
     (IntKind.u32.wrap
     (IntKind.i64.wrap
     ((1 : Int) +
     nextR l (0 : Int) (2 : Int))))
     (IntKind.i64.wrap
     ((1 : Int) +
     nextR l (nextN l (0 : Int))
     (4 : Int)))
     l_1).length)).toNat
     (Rec.mk
     ((splitL
     (IntKind.u32.wrap
     (IntKind.i64.wrap
     ((1 : Int) +
     nextR l (0 : Int) (2 : Int))))
     (IntKind.i64.wrap
     ((1 : Int) +
     nextR l (nextN l (0 : Int))
     (4 : Int)))
     l_1).getD
     (nextR l (nextN l (nextN l (0 : Int)))
     (@Nat.cast Int _
     (splitL
     (IntKind.u32.wrap
     (IntKind.i64.wrap
     ((1 : Int) +
     nextR l (0 : Int) (2 : Int))))
     (IntKind.i64.wrap
     ((1 : Int) +
     nextR l (nextN l (0 : Int))
     (4 : Int)))
     l_1).length)).toNat
     default).1
     ((splitL
     (IntKind.u32.wrap
     (IntKind.i64.wrap
     ((1 : Int) +
     nextR l (0 : Int) (2 : Int))))
     (IntKind.i64.wrap
     ((1 : Int) +
     nextR l (nextN l (0 : Int))
     (4 : Int)))
     l_1).getD
     (nextR l (nextN l (nextN l (0 : Int)))
     (@Nat.cast Int _
     (splitL
     (IntKind.u32.wrap
     (IntKind.i64.wrap
     ((1 : Int) +
     nextR l (0 : Int) (2 : Int))))
     (IntKind.i64.wrap
     ((1 : Int) +
     nextR l (nextN l (0 : Int))
     (4 : Int)))
     l_1).length)).toNat
     default).2
     ((splitL
     (IntKind.u32.wrap
     (IntKind.i64.wrap
     ((1 : Int) +
     nextR l (0 : Int) (2 : Int))))
     (IntKind.i64.wrap
     ((1 : Int) +
     nextR l (nextN l (0 : Int))
     (4 : Int)))
     l_1).getD
     (nextR l (nextN l (nextN l (0 : Int)))
     (@Nat.cast Int _
     (splitL
     (IntKind.u32.wrap
     (IntKind.i64.wrap
     ((1 : Int) +
     nextR l (0 : Int) (2 : Int))))
     (IntKind.i64.wrap
     ((1 : Int) +
     nextR l (nextN l (0 : Int))
     (4 : Int)))
     l_1).length)).toNat
     default).3
     ((splitL
     (IntKind.u32.wrap
     (IntKind.i64.wrap
     ((1 : Int) +
     nextR l (0 : Int) (2 : Int))))
     (IntKind.i64.wrap
     ((1 : Int) +
     nextR l (nextN l (0 : Int))
     (4 : Int)))
     l_1).getD
     (nextR l (nextN l (nextN l (0 : Int)))
     (@Nat.cast Int _
     (splitL
     (IntKind.u32.wrap
     (IntKind.i64.wrap
     ((1 : Int) +
     nextR l (0 : Int) (2 : Int))))
     (IntKind.i64.wrap
     ((1 : Int) +
     nextR l (nextN l (0 : Int))
     (4 : Int)))
     l_1).length)).toNat
     default).4
     (!((splitL
     (IntKind.u32.wrap
     (IntKind.i64.wrap
     ((1 : Int) +
     nextR l (0 : Int) (2 : Int))))
     (IntKind.i64.wrap
     ((1 : Int) +
     nextR l (nextN l (0 : Int))
     (4 : Int)))
     l_1).getD
     (nextR l (nextN l (nextN l (0 : Int)))
     (@Nat.cast Int _
     (splitL
     (IntKind.u32.wrap
     (IntKind.i64.wrap
     ((1 : Int) +
     nextR l (0 : Int)
     (2 : Int))))
     (IntKind.i64.wrap
     ((1 : Int) +
     nextR l (nextN l (0 : Int))
     (4 : Int)))
     l_1).length)).toNat
     default).5)
     ((splitL
     (IntKind.u32.wrap
     (IntKind.i64.wrap
     ((1 : Int) +
     nextR l (0 : Int) (2 : Int))))
     (IntKind.i64.wrap
     ((1 : Int) +
     nextR l (nextN l (0 : Int))
     (4 : Int)))
     l_1).getD
     (nextR l (nextN l (nextN l (0 : Int)))
     (@Nat.cast Int _
     (splitL
     (IntKind.u32.wrap
     (IntKind.i64.wrap
     ((1 : Int) +
     nextR l (0 : Int) (2 : Int))))
     (IntKind.i64.wrap
     ((1 : Int) +
     nextR l (nextN l (0 : Int))
     (4 : Int)))
     l_1).length)).toNat
     default).6))).1
     (joinR
     ((splitL
     (IntKind.u32.wrap
     (IntKind.i64.wrap
     ((1 : Int) + nextR l (0 : Int) (2 : Int))))
     (IntKind.i64.wrap
     ((1 : Int) +
     nextR l (nextN l (0 : Int)) (4 : Int)))
     l_1).set
     (nextR l (nextN l (nextN l (0 : Int)))
     (@Nat.cast Int _
     (splitL
     (IntKind.u32.wrap
     (IntKind.i64.wrap
     ((1 : Int) +
     nextR l (0 : Int) (2 : Int))))
     (IntKind.i64.wrap
     ((1 : Int) +
     nextR l (nextN l (0 : Int))
     (4 : Int)))
     l_1).length)).toNat
     (Rec.mk
     ((splitL
     (IntKind.u32.wrap
     (IntKind.i64.wrap
     ((1 : Int) +
     nextR l (0 : Int) (2 : Int))))
     (IntKind.i64.wrap
     ((1 : Int) +
     nextR l (nextN l (0 : Int))
     (4 : Int)))
     l_1).getD
     (nextR l (nextN l (nextN l (0 : Int)))
     (@Nat.cast Int _
     (splitL
     (IntKind.u32.wrap
     (IntKind.i64.wrap
     ((1 : Int) +
     nextR l (0 : Int) (2 : Int))))
     (IntKind.i64.wrap
     ((1 : Int) +
     nextR l (nextN l (0 : Int))
     (4 : Int)))
     l_1).length)).toNat
     default).1
     ((splitL
     (IntKind.u32.wrap
     (IntKind.i64.wrap
     ((1 : Int) +
     nextR l (0 : Int) (2 : Int))))
     (IntKind.i64.wrap
     ((1 : Int) +
     nextR l (nextN l (0 : Int))
     (4 : Int)))
     l_1).getD
     (nextR l (nextN l (nextN l (0 : Int)))
     (@Nat.cast Int _
     (splitL
     (IntKind.u32.wrap
     (IntKind.i64.wrap
     ((1 : Int) +
     nextR l (0 : Int) (2 : Int))))
     (IntKind.i64.wrap
     ((1 : Int) +
     nextR l (nextN l (0 : Int))
     (4 : Int)))
     l_1).length)).toNat
     default).2
     ((splitL
     (IntKind.u32.wrap
     (IntKind.i64.wrap
     ((1 : Int) +
     nextR l (0 : Int) (2 : Int))))
     (IntKind.i64.wrap
     ((1 : Int) +
     nextR l (nextN l (0 : Int))
     (4 : Int)))
     l_1).getD
     (nextR l (nextN l (nextN l (0 : Int)))
     (@Nat.cast Int _
     (splitL
     (IntKind.u32.wrap
     (IntKind.i64.wrap
     ((1 : Int) +
     nextR l (0 : Int) (2 : Int))))
     (IntKind.i64.wrap
     ((1 : Int) +
     nextR l (nextN l (0 : Int))
     (4 : Int)))
     l_1).length)).toNat
     default).3
     ((splitL
     (IntKind.u32.wrap
     (IntKind.i64.wrap
     ((1 : Int) +
     nextR l (0 : Int) (2 : Int))))
     (IntKind.i64.wrap
     ((1 : Int) +
     nextR l (nextN l (0 : Int))
     (4 : Int)))
     l_1).getD
     (nextR l (nextN l (nextN l (0 : Int)))
     (@Nat.cast Int _
     (splitL
     (IntKind.u32.wrap
     (IntKind.i64.wrap
     ((1 : Int) +
     nextR l (0 : Int) (2 : Int))))
     (IntKind.i64.wrap
     ((1 : Int) +
     nextR l (nextN l (0 : Int))
     (4 : Int)))
     l_1).length)).toNat
     default).4
     (!((splitL
     (IntKind.u32.wrap
     (IntKind.i64.wrap
     ((1 : Int) +
     nextR l (0 : Int) (2 : Int))))
     (IntKind.i64.wrap
     ((1 : Int) +
     nextR l (nextN l (0 : Int))
     (4 : Int)))
     l_1).getD
     (nextR l (nextN l (nextN l (0 : Int)))
     (@Nat.cast Int _
     (splitL
     (IntKind.u32.wrap
     (IntKind.i64.wrap
     ((1 : Int) +
     nextR l (0 : Int)
     (2 : Int))))
     (IntKind.i64.wrap
     ((1 : Int) +
     nextR l (nextN l (0 : Int))
     (4 : Int)))
     l_1).length)).toNat
     default).5)
     ((splitL
     (IntKind.u32.wrap
     (IntKind.i64.wrap
     ((1 : Int) +
     nextR l (0 : Int) (2 : Int))))
     (IntKind.i64.wrap
     ((1 : Int) +
     nextR l (nextN l (0 : Int))
     (4 : Int)))
     l_1).getD
     (nextR l (nextN l (nextN l (0 : Int)))
     (@Nat.cast Int _
     (splitL
     (IntKind.u32.wrap
     (IntKind.i64.wrap
     ((1 : Int) +
     nextR l (0 : Int) (2 : Int))))
     (IntKind.i64.wrap
     ((1 : Int) +
     nextR l (nextN l (0 : Int))
     (4 : Int)))
     l_1).length)).toNat
     default).6))).1)
     (post (AV.bool false) none)
     (br
     (joinU
     ((splitL
     (IntKind.u32.wrap
     (IntKind.i64.wrap
     ((1 : Int) + nextR l (0 : Int) (2 : Int))))
     (IntKind.i64.wrap
     ((1 : Int) +
     nextR l (nextN l (0 : Int)) (4 : Int)))
     l_1).set
     (nextR l (nextN l (nextN l (0 : Int)))
     (@Nat.cast Int _
     (splitL
     (IntKind.u32.wrap
     (IntKind.i64.wrap
     ((1 : Int) +
     nextR l (0 : Int) (2 : Int))))
     (IntKind.i64.wrap
     ((1 : Int) +
     nextR l (nextN l (0 : Int)) (4 : Int)))
     l_1).length)).toNat
     (Rec.mk
     ((splitL
     (IntKind.u32.wrap
     (IntKind.i64.wrap
     ((1 : Int) +
     nextR l (0 : Int) (2 : Int))))
     (IntKind.i64.wrap
     ((1 : Int) +
     nextR l (nextN l (0 : Int)) (4 : Int)))
     l_1).getD
     (nextR l (nextN l (nextN l (0 : Int)))
     (@Nat.cast Int _
     (splitL
     (IntKind.u32.wrap
     (IntKind.i64.wrap
     ((1 : Int) +
     nextR l (0 : Int) (2 : Int))))
     (IntKind.i64.wrap
     ((1 : Int) +
     nextR l (nextN l (0 : Int))
     (4 : Int)))
     l_1).length)).toNat
     default).1
     ((splitL
     (IntKind.u32.wrap
     (IntKind.i64.wrap
     ((1 : Int) +
     nextR l (0 : Int) (2 : Int))))
     (IntKind.i64.wrap
     ((1 : Int) +
     nextR l (nextN l (0 : Int)) (4 : Int)))
     l_1).getD
     (nextR l (nextN l (nextN l (0 : Int)))
     (@Nat.cast Int _
     (splitL
     (IntKind.u32.wrap
     (IntKind.i64.wrap
     ((1 : Int) +
     nextR l (0 : Int) (2 : Int))))
     (IntKind.i64.wrap
     ((1 : Int) +
     nextR l (nextN l (0 : Int))
     (4 : Int)))
     l_1).length)).toNat
     default).2
     ((splitL
     (IntKind.u32.wrap
     (IntKind.i64.wrap
     ((1 : Int) +
     nextR l (0 : Int) (2 : Int))))
     (IntKind.i64.wrap
     ((1 : Int) +
     nextR l (nextN l (0 : Int)) (4 : Int)))
     l_1).getD
     (nextR l (nextN l (nextN l (0 : Int)))
     (@Nat.cast Int _
     (splitL
     (IntKind.u32.wrap
     (IntKind.i64.wrap
     ((1 : Int) +
     nextR l (0 : Int) (2 : Int))))
     (IntKind.i64.wrap
     ((1 : Int) +
     nextR l (nextN l (0 : Int))
     (4 : Int)))
     l_1).length)).toNat
     default).3
     ((splitL
     (IntKind.u32.wrap
     (IntKind.i64.wrap
     ((1 : Int) +
     nextR l (0 : Int) (2 : Int))))
     (IntKind.i64.wrap
     ((1 : Int) +
     nextR l (nextN l (0 : Int)) (4 : Int)))
     l_1).getD
     (nextR l (nextN l (nextN l (0 : Int)))
     (@Nat.cast Int _
     (splitL
     (IntKind.u32.wrap
     (IntKind.i64.wrap
     ((1 : Int) +
     nextR l (0 : Int) (2 : Int))))
     (IntKind.i64.wrap
     ((1 : Int) +
     nextR l (nextN l (0 : Int))
     (4 : Int)))
     l_1).length)).toNat
     default).4
     (!((splitL
     (IntKind.u32.wrap
     (IntKind.i64.wrap
     ((1 : Int) +
     nextR l (0 : Int) (2 : Int))))
     (IntKind.i64.wrap
     ((1 : Int) +
     nextR l (nextN l (0 : Int))
     (4 : Int)))
     l_1).getD
     (nextR l (nextN l (nextN l (0 : Int)))
     (@Nat.cast Int _
     (splitL
     (IntKind.u32.wrap
     (IntKind.i64.wrap
     ((1 : Int) +
     nextR l (0 : Int) (2 : Int))))
     (IntKind.i64.wrap
     ((1 : Int) +
     nextR l (nextN l (0 : Int))
     (4 : Int)))
     l_1).length)).toNat
     default).5)
     ((splitL
     (IntKind.u32.wrap
     (IntKind.i64.wrap
     ((1 : Int) +
     nextR l (0 : Int) (2 : Int))))
     (IntKind.i64.wrap
     ((1 : Int) +
     nextR l (nextN l (0 : Int)) (4 : Int)))
     l_1).getD
     (nextR l (nextN l (nextN l (0 : Int)))
     (@Nat.cast Int _
     (splitL
     (IntKind.u32.wrap
     (IntKind.i64.wrap
     ((1 : Int) +
     nextR l (0 : Int) (2 : Int))))
     (IntKind.i64.wrap
     ((1 : Int) +
     nextR l (nextN l (0 : Int))
     (4 : Int)))
     l_1).length)).toNat
     default).6)) !=
     joinU
     ((splitL
     (IntKind.u32.wrap
     (IntKind.i64.wrap
     ((1 : Int) + nextR l (0 : Int) (2 : Int))))
     (IntKind.i64.wrap
     ((1 : Int) +
     nextR l (nextN l (0 : Int)) (4 : Int)))
     l_1).set
     (nextR l (nextN l (nextN l (0 : Int)))
     (@Nat.cast Int _
     (splitL
     (IntKind.u32.wrap
     (IntKind.i64.wrap
     ((1 : Int) +
     nextR l (0 : Int) (2 : Int))))
     (IntKind.i64.wrap
     ((1 : Int) +
     nextR l (nextN l (0 : Int)) (4 : Int)))
     l_1).length)).toNat
     (Rec.mk
     ((splitL
     (IntKind.u32.wrap
     (IntKind.i64.wrap
     ((1 : Int) +
     nextR l (0 : Int) (2 : Int))))
     (IntKind.i64.wrap
     ((1 : Int) +
     nextR l (nextN l (0 : Int)) (4 : Int)))
     l_1).getD
     (nextR l (nextN l (nextN l (0 : Int)))
     (@Nat.cast Int _
     (splitL
     (IntKind.u32.wrap
     (IntKind.i64.wrap
     ((1 : Int) +
     nextR l (0 : Int) (2 : Int))))
     (IntKind.i64.wrap
     ((1 : Int) +
     nextR l (nextN l (0 : Int))
     (4 : Int)))
     l_1).length)).toNat
     default).1
     ((splitL
     (IntKind.u32.wrap
     (IntKind.i64.wrap
     ((1 : Int) +
     nextR l (0 : Int) (2 : Int))))
     (IntKind.i64.wrap
     ((1 : Int) +
     nextR l (nextN l (0 : Int)) (4 : Int)))
     l_1).getD
     (nextR l (nextN l (nextN l (0 : Int)))
     (@Nat.cast Int _
     (splitL
     (IntKind.u32.wrap
     (IntKind.i64.wrap
     ((1 : Int) +
     nextR l (0 : Int) (2 : Int))))
     (IntKind.i64.wrap
     ((1 : Int) +
     nextR l (nextN l (0 : Int))
     (4 : Int)))
     l_1).length)).toNat
     default).2
     ((splitL
     (IntKind.u32.wrap
     (IntKind.i64.wrap
     ((1 : Int) +
     nextR l (0 : Int) (2 : Int))))
     (IntKind.i64.wrap
     ((1 : Int) +
     nextR l (nextN l (0 : Int)) (4 : Int)))
     l_1).getD
     (nextR l (nextN l (nextN l (0 : Int)))
     (@Nat.cast Int _
     (splitL
     (IntKind.u32.wrap
     (IntKind.i64.wrap
     ((1 : Int) +
     nextR l (0 : Int) (2 : Int))))
     (IntKind.i64.wrap
     ((1 : Int) +
     nextR l (nextN l (0 : Int))
     (4 : Int)))
     l_1).length)).toNat
     default).3
     ((splitL
     (IntKind.u32.wrap
     (IntKind.i64.wrap
     ((1 : Int) +
     nextR l (0 : Int) (2 : Int))))
     (IntKind.i64.wrap
     ((1 : Int) +
     nextR l (nextN l (0 : Int)) (4 : Int)))
     l_1).getD
     (nextR l (nextN l (nextN l (0 : Int)))
     (@Nat.cast Int _
     (splitL
     (IntKind.u32.wrap
     (IntKind.i64.wrap
     ((1 : Int) +
     nextR l (0 : Int) (2 : Int))))
     (IntKind.i64.wrap
     ((1 : Int) +
     nextR l (nextN l (0 : Int))
     (4 : Int)))
     l_1).length)).toNat
     default).4
     (!((splitL
     (IntKind.u32.wrap
     (IntKind.i64.wrap
     ((1 : Int) +
     nextR l (0 : Int) (2 : Int))))
     (IntKind.i64.wrap
     ((1 : Int) +
     nextR l (nextN l (0 : Int))
     (4 : Int)))
     l_1).getD
     (nextR l (nextN l (nextN l (0 : Int)))
     (@Nat.cast Int _
     (splitL
     (IntKind.u32.wrap
     (IntKind.i64.wrap
     ((1 : Int) +
     nextR l (0 : Int) (2 : Int))))
     (IntKind.i64.wrap
     ((1 : Int) +
     nextR l (nextN l (0 : Int))
     (4 : Int)))
     l_1).length)).toNat
     default).5)
     ((splitL
     (IntKind.u32.wrap
     (IntKind.i64.wrap
     ((1 : Int) +
     nextR l (0 : Int) (2 : Int))))
     (IntKind.i64.wrap
     ((1 : Int) +
     nextR l (nextN l (0 : Int)) (4 : Int)))
     l_1).getD
     (nextR l (nextN l (nextN l (0 : Int)))
     (@Nat.cast Int _
     (splitL
     (IntKind.u32.wrap
     (IntKind.i64.wrap
     ((1 : Int) +
     nextR l (0 : Int) (2 : Int))))
     (IntKind.i64.wrap
     ((1 : Int) +
     nextR l (nextN l (0 : Int))
     (4 : Int)))
     l_1).length)).toNat
     default).6)))
     (post (AV.bool false) none)
     (br
     ((joinR
     ((splitL
     (IntKind.u32.wrap
     (IntKind.i64.wrap
     ((1 : Int) +
     nextR l (0 : Int) (2 : Int))))
     (IntKind.i64.wrap
     ((1 : Int) +
     nextR l (nextN l (0 : Int)) (4 : Int)))
     l_1).set
     (nextR l (nextN l (nextN l (0 : Int)))
     (@Nat.cast Int _
     (splitL
     (IntKind.u32.wrap
     (IntKind.i64.wrap
     ((1 : Int) +
     nextR l (0 : Int) (2 : Int))))
     (IntKind.i64.wrap
     ((1 : Int) +
     nextR l (nextN l (0 : Int))
     (4 : Int)))
     l_1).length)).toNat
     (Rec.mk
     ((splitL
     (IntKind.u32.wrap
     (IntKind.i64.wrap
     ((1 : Int) +
     nextR l (0 : Int) (2 : Int))))
     (IntKind.i64.wrap
     ((1 : Int) +
     nextR l (nextN l (0 : Int))
     (4 : Int)))
     l_1).getD
     (nextR l (nextN l (nextN l (0 : Int)))
     (@Nat.cast Int _
     (splitL
     (IntKind.u32.wrap
     (IntKind.i64.wrap
     ((1 : Int) +
     nextR l (0 : Int)
     (2 : Int))))
     (IntKind.i64.wrap
     ((1 : Int) +
     nextR l (nextN l (0 : Int))
     (4 : Int)))
     l_1).length)).toNat
     default).1
     ((splitL
     (IntKind.u32.wrap
     (IntKind.i64.wrap
     ((1 : Int) +
     nextR l (0 : Int) (2 : Int))))
     (IntKind.i64.wrap
     ((1 : Int) +
     nextR l (nextN l (0 : Int))
     (4 : Int)))
     l_1).getD
     (nextR l (nextN l (nextN l (0 : Int)))
     (@Nat.cast Int _
     (splitL
     (IntKind.u32.wrap
     (IntKind.i64.wrap
     ((1 : Int) +
     nextR l (0 : Int)
     (2 : Int))))
     (IntKind.i64.wrap
     ((1 : Int) +
     nextR l (nextN l (0 : Int))
     (4 : Int)))
     l_1).length)).toNat
     default).2
     ((splitL
     (IntKind.u32.wrap
     (IntKind.i64.wrap
     ((1 : Int) +
     nextR l (0 : Int) (2 : Int))))
     (IntKind.i64.wrap
     ((1 : Int) +
     nextR l (nextN l (0 : Int))
     (4 : Int)))
     l_1).getD
     (nextR l (nextN l (nextN l (0 : Int)))
     (@Nat.cast Int _
     (splitL
     (IntKind.u32.wrap
     (IntKind.i64.wrap
     ((1 : Int) +
     nextR l (0 : Int)
     (2 : Int))))
     (IntKind.i64.wrap
     ((1 : Int) +
     nextR l (nextN l (0 : Int))
     (4 : Int)))
     l_1).length)).toNat
     default).3
     ((splitL
     (IntKind.u32.wrap
     (IntKind.i64.wrap
     ((1 : Int) +
     nextR l (0 : Int) (2 : Int))))
     (IntKind.i64.wrap
     ((1 : Int) +
     nextR l (nextN l (0 : Int))
     (4 : Int)))
     l_1).getD
     (nextR l (nextN l (nextN l (0 : Int)))
     (@Nat.cast Int _
     (splitL
     (IntKind.u32.wrap
     (IntKind.i64.wrap
     ((1 : Int) +
     nextR l (0 : Int)
     (2 : Int))))
     (IntKind.i64.wrap
     ((1 : Int) +
     nextR l (nextN l (0 : Int))
     (4 : Int)))
     l_1).length)).toNat
     default).4
     (!((splitL
     (IntKind.u32.wrap
     (IntKind.i64.wrap
     ((1 : Int) +
     nextR l (0 : Int) (2 : Int))))
     (IntKind.i64.wrap
     ((1 : Int) +
     nextR l (nextN l (0 : Int))
     (4 : Int)))
     l_1).getD
     (nextR l (nextN l (nextN l (0 : Int)))
     (@Nat.cast Int _
     (splitL
     (IntKind.u32.wrap
     (IntKind.i64.wrap
     ((1 : Int) +
     nextR l (0 : Int)
     (2 : Int))))
     (IntKind.i64.wrap
     ((1 : Int) +
     nextR l (nextN l (0 : Int))
     (4 : Int)))
     l_1).length)).toNat
     default).5)
     ((splitL
     (IntKind.u32.wrap
     (IntKind.i64.wrap
     ((1 : Int) +
     nextR l (0 : Int) (2 : Int))))
     (IntKind.i64.wrap
     ((1 : Int) +
     nextR l (nextN l (0 : Int))
     (4 : Int)))
     l_1).getD
     (nextR l (nextN l (nextN l (0 : Int)))
     (@Nat.cast Int _
     (splitL
     (IntKind.u32.wrap
     (IntKind.i64.wrap
     ((1 : Int) +
     nextR l (0 : Int)
     (2 : Int))))
     (IntKind.i64.wrap
     ((1 : Int) +
     nextR l (nextN l (0 : Int))
     (4 : Int)))
     l_1).length)).toNat
     default).6))).2 !=
     (joinR
     ((splitL
     (IntKind.u32.wrap
     (IntKind.i64.wrap
     ((1 : Int) +
     nextR l (0 : Int) (2 : Int))))
     (IntKind.i64.wrap
     ((1 : Int) +
     nextR l (nextN l (0 : Int)) (4 : Int)))
     l_1).set
     (nextR l (nextN l (nextN l (0 : Int)))
     (@Nat.cast Int _
     (splitL
     (IntKind.u32.wrap
     (IntKind.i64.wrap
     ((1 : Int) +
     nextR l (0 : Int) (2 : Int))))
     (IntKind.i64.wrap
     ((1 : Int) +
     nextR l (nextN l (0 : Int))
     (4 : Int)))
     l_1).length)).toNat
     (Rec.mk
     ((splitL
     (IntKind.u32.wrap
     (IntKind.i64.wrap
     ((1 : Int) +
     nextR l (0 : Int) (2 : Int))))
     (IntKind.i64.wrap
     ((1 : Int) +
     nextR l (nextN l (0 : Int))
     (4 : Int)))
     l_1).getD
     (nextR l (nextN l (nextN l (0 : Int)))
     (@Nat.cast Int _
     (splitL
     (IntKind.u32.wrap
     (IntKind.i64.wrap
     ((1 : Int) +
     nextR l (0 : Int)
     (2 : Int))))
     (IntKind.i64.wrap
     ((1 : Int) +
     nextR l (nextN l (0 : Int))
     (4 : Int)))
     l_1).length)).toNat
     default).1
     ((splitL
     (IntKind.u32.wrap
     (IntKind.i64.wrap
     ((1 : Int) +
     nextR l (0 : Int) (2 : Int))))
     (IntKind.i64.wrap
     ((1 : Int) +
     nextR l (nextN l (0 : Int))
     (4 : Int)))
     l_1).getD
     (nextR l (nextN l (nextN l (0 : Int)))
     (@Nat.cast Int _
     (splitL
     (IntKind.u32.wrap
     (IntKind.i64.wrap
     ((1 : Int) +
     nextR l (0 : Int)
     (2 : Int))))
     (IntKind.i64.wrap
     ((1 : Int) +
     nextR l (nextN l (0 : Int))
     (4 : Int)))
     l_1).length)).toNat
     default).2
     ((splitL
     (IntKind.u32.wrap
     (IntKind.i64.wrap
     ((1 : Int) +
     nextR l (0 : Int) (2 : Int))))
     (IntKind.i64.wrap
     ((1 : Int) +
     nextR l (nextN l (0 : Int))
     (4 : Int)))
     l_1).getD
     (nextR l (nextN l (nextN l (0 : Int)))
     (@Nat.cast Int _
     (splitL
     (IntKind.u32.wrap
     (IntKind.i64.wrap
     ((1 : Int) +
     nextR l (0 : Int)
     (2 : Int))))
     (IntKind.i64.wrap
     ((1 : Int) +
     nextR l (nextN l (0 : Int))
     (4 : Int)))
     l_1).length)).toNat
     default).3
     ((splitL
     (IntKind.u32.wrap
     (IntKind.i64.wrap
     ((1 : Int) +
     nextR l (0 : Int) (2 : Int))))
     (IntKind.i64.wrap
     ((1 : Int) +
     nextR l (nextN l (0 : Int))
     (4 : Int)))
     l_1).getD
     (nextR l (nextN l (nextN l (0 : Int)))
     (@Nat.cast Int _
     (splitL
     (IntKind.u32.wrap
     (IntKind.i64.wrap
     ((1 : Int) +
     nextR l (0 : Int)
     (2 : Int))))
     (IntKind.i64.wrap
     ((1 : Int) +
     nextR l (nextN l (0 : Int))
     (4 : Int)))
     l_1).length)).toNat
     default).4
     (!((splitL
     (IntKind.u32.wrap
     (IntKind.i64.wrap
     ((1 : Int) +
     nextR l (0 : Int) (2 : Int))))
     (IntKind.i64.wrap
     ((1 : Int) +
     nextR l (nextN l (0 : Int))
     (4 : Int)))
     l_1).getD
     (nextR l (nextN l (nextN l (0 : Int)))
     (@Nat.cast Int _
     (splitL
     (IntKind.u32.wrap
     (IntKind.i64.wrap
     ((1 : Int) +
     nextR l (0 : Int)
     (2 : Int))))
     (IntKind.i64.wrap
     ((1 : Int) +
     nextR l (nextN l (0 : Int))
     (4 : Int)))
     l_1).length)).toNat
     default).5)
     ((splitL
     (IntKind.u32.wrap
     (IntKind.i64.wrap
     ((1 : Int) +
     nextR l (0 : Int) (2 : Int))))
     (IntKind.i64.wrap
     ((1 : Int) +
     nextR l (nextN l (0 : Int))
     (4 : Int)))
     l_1).getD
     (nextR l (nextN l (nextN l (0 : Int)))
     (@Nat.cast Int _
     (splitL
     (IntKind.u32.wrap
     (IntKind.i64.wrap
     ((1 : Int) +
     nextR l (0 : Int)
     (2 : Int))))
     (IntKind.i64.wrap
     ((1 : Int) +
     nextR l (nextN l (0 : Int))
     (4 : Int)))
     l_1).length)).toNat
     default).6))).2)
     (post (AV.bool false) none)
     (post (AV.bool true) none)))))))))))))))))
     (br (nextR l (nextN l (nextN l (nextN l (0 : Int)))) (7 : Int) == (3 : Int))
     (chk
     (inB
     (nextR l (nextN l (nextN l (0 : Int)))
     (@Nat.cast Int _
     (splitL
     (IntKind.u32.wrap
     (IntKind.i64.wrap ((1 : Int) + nextR l (0 : Int) (2 : Int))))
     (IntKind.i64.wrap ((1 : Int) + nextR l (nextN l (0 : Int)) (4 : Int)))
     l_1).length))
     (splitL
     (IntKind.u32.wrap (IntKind.i64.wrap ((1 : Int) + nextR l (0 : Int) (2 : Int))))
     (IntKind.i64.wrap ((1 : Int) + nextR l (nextN l (0 : Int)) (4 : Int)))
     l_1).length)
     (chk
     (decide
     ((nextR l (nextN l (nextN l (0 : Int)))
     (@Nat.cast Int _
     (splitL
     (IntKind.u32.wrap
     (IntKind.i64.wrap ((1 : Int) + nextR l (0 : Int) (2 : Int))))
     (IntKind.i64.wrap ((1 : Int) + nextR l (nextN l (0 : Int)) (4 : Int)))
     l_1).length)).toNat <
     (splitL
     (IntKind.u32.wrap
     (IntKind.i64.wrap ((1 : Int) + nextR l (0 : Int) (2 : Int))))
     (IntKind.i64.wrap ((1 : Int) + nextR l (nextN l (0 : Int)) (4 : Int)))
     l_1).length))
     (chk
     (inB
     (nextR l (nextN l (nextN l (0 : Int)))
     (@Nat.cast Int _
     (splitL
     (IntKind.u32.wrap
     (IntKind.i64.wrap ((1 : Int) + nextR l (0 : Int) (2 : Int))))
     (IntKind.i64.wrap ((1 : Int) + nextR l (nextN l (0 : Int)) (4 : Int)))
     l_1).length))
     (splitL
     (IntKind.u32.wrap
     (IntKind.i64.wrap ((1 : Int) + nextR l (0 : Int) (2 : Int))))
     (IntKind.i64.wrap ((1 : Int) + nextR l (nextN l (0 : Int)) (4 : Int)))
     l_1).length)
     (chk
     (decide
     ((nextR l (nextN l (nextN l (0 : Int)))
     (@Nat.cast Int _
     (splitL
     (IntKind.u32.wrap
     (IntKind.i64.wrap ((1 : Int) + nextR l (0 : Int) (2 : Int))))
     (IntKind.i64.wrap
     ((1 : Int) + nextR l (nextN l (0 : Int)) (4 : Int)))
     l_1).length)).toNat <
     (splitL
     (IntKind.u32.wrap
     (IntKind.i64.wrap ((1 : Int) + nextR l (0 : Int) (2 : Int))))
     (IntKind.i64.wrap ((1 : Int) + nextR l (nextN l (0 : Int)) (4 : Int)))
     l_1).length))
     (chk
     (decide
     ((0 : Int) <
     IntKind.i64.wrap
     (@Nat.cast Int _
     ((splitL
     (IntKind.u32.wrap
     (IntKind.i64.wrap
     ((1 : Int) + nextR l (0 : Int) (2 : Int))))
     (IntKind.i64.wrap
     ((1 : Int) + nextR l (nextN l (0 : Int)) (4 : Int)))
     l_1).getD
     (nextR l (nextN l (nextN l (0 : Int)))
     (@Nat.cast Int _
     (splitL
     (IntKind.u32.wrap
     (IntKind.i64.wrap
     ((1 : Int) + nextR l (0 : Int) (2 : Int))))
     (IntKind.i64.wrap
     ((1 : Int) +
     nextR l (nextN l (0 : Int)) (4 : Int)))
     l_1).length)).toNat
     default).6.length +
     (1 : Int)) ∧
     IntKind.i64.wrap
     (@Nat.cast Int _
     ((splitL
     (IntKind.u32.wrap
     (IntKind.i64.wrap
     ((1 : Int) + nextR l (0 : Int) (2 : Int))))
     (IntKind.i64.wrap
     ((1 : Int) + nextR l (nextN l (0 : Int)) (4 : Int)))
     l_1).getD
     (nextR l (nextN l (nextN l (0 : Int)))
     (@Nat.cast Int _
     (splitL
     (IntKind.u32.wrap
     (IntKind.i64.wrap
     ((1 : Int) + nextR l (0 : Int) (2 : Int))))
     (IntKind.i64.wrap
     ((1 : Int) +
     nextR l (nextN l (0 : Int)) (4 : Int)))
     l_1).length)).toNat
     default).6.length +
     (1 : Int)) ≤
     (1000000 : Int) ∧
     (0 : Int) ≤ nextN l (nextN l (nextN l (nextN l (0 : Int)))) ∧
     nextN l (nextN l (nextN l (nextN l (0 : Int)))) ≤ @Nat.cast Int _ l.length))
     (chk
     (cutB
     ((splitL
     (IntKind.u32.wrap
     (IntKind.i64.wrap ((1 : Int) + nextR l (0 : Int) (2 : Int))))
     (IntKind.i64.wrap
     ((1 : Int) + nextR l (nextN l (0 : Int)) (4 : Int)))
     l_1).getD
     (nextR l (nextN l (nextN l (0 : Int)))
     (@Nat.cast Int _
     (splitL
     (IntKind.u32.wrap
     (IntKind.i64.wrap
     ((1 : Int) + nextR l (0 : Int) (2 : Int))))
     (IntKind.i64.wrap
     ((1 : Int) + nextR l (nextN l (0 : Int)) (4 : Int)))
     l_1).length)).toNat
     default).6.length
     none
     (some
     (nextR l (nextN l (nextN l (nextN l (nextN l (0 : Int)))))
     (IntKind.i64.wrap
     (@Nat.cast Int _
     ((splitL
     (IntKind.u32.wrap
     (IntKind.i64.wrap
     ((1 : Int) + nextR l (0 : Int) (2 : Int))))
     (IntKind.i64.wrap
     ((1 : Int) + nextR l (nextN l (0 : Int)) (4 : Int)))
     l_1).getD
     (nextR l (nextN l (nextN l (0 : Int)))
     (@Nat.cast Int _
     (splitL
     (IntKind.u32.wrap
     (IntKind.i64.wrap
     ((1 : Int) + nextR l (0 : Int) (2 : Int))))
     (IntKind.i64.wrap
     ((1 : Int) +
     nextR l (nextN l (0 : Int)) (4 : Int)))
     l_1).length)).toNat
     default).6.length +
     (1 : Int))))))
     (chk
     (inB
     (nextR l (nextN l (nextN l (0 : Int)))
     (@Nat.cast Int _
     (splitL
     (IntKind.u32.wrap
     (IntKind.i64.wrap ((1 : Int) + nextR l (0 : Int) (2 : Int))))
     (IntKind.i64.wrap
     ((1 : Int) + nextR l (nextN l (0 : Int)) (4 : Int)))
     l_1).length))
     (splitL
     (IntKind.u32.wrap
     (IntKind.i64.wrap ((1 : Int) + nextR l (0 : Int) (2 : Int))))
     (IntKind.i64.wrap
     ((1 : Int) + nextR l (nextN l (0 : Int)) (4 : Int)))
     l_1).length)
     (chk
     (decide
     ((nextR l (nextN l (nextN l (0 : Int)))
     (@Nat.cast Int _
     (splitL
     (IntKind.u32.wrap
     (IntKind.i64.wrap
     ((1 : Int) + nextR l (0 : Int) (2 : Int))))
     (IntKind.i64.wrap
     ((1 : Int) + nextR l (nextN l (0 : Int)) (4 : Int)))
     l_1).length)).toNat <
     (splitL
     (IntKind.u32.wrap
     (IntKind.i64.wrap ((1 : Int) + nextR l (0 : Int) (2 : Int))))
     (IntKind.i64.wrap
     ((1 : Int) + nextR l (nextN l (0 : Int)) (4 : Int)))
     l_1).length))
     (br (joinC ps != joinC ps) (post (AV.bool false) none)
     (br (!strEq (joinR ps).1 (joinR ps).1) (post (AV.bool false) none)
     (br (joinU ps != joinU ps) (post (AV.bool false) none)
     (br ((joinR ps).2 != (joinR ps).2) (post (AV.bool false) none)
     (br
     (joinC
     (splitL
     (IntKind.u32.wrap
     (IntKind.i64.wrap
     ((1 : Int) + nextR l (0 : Int) (2 : Int))))
     (IntKind.i64.wrap
     ((1 : Int) + nextR l (nextN l (0 : Int)) (4 : Int)))
     l_1) !=
     joinC
     (splitL
     (IntKind.u32.wrap
     (IntKind.i64.wrap
     ((1 : Int) + nextR l (0 : Int) (2 : Int))))
     (IntKind.i64.wrap
     ((1 : Int) + nextR l (nextN l (0 : Int)) (4 : Int)))
     l_1))
     (post (AV.bool false) none)
     (br
     (!strEq
     (joinR
     (splitL
     (IntKind.u32.wrap
     (IntKind.i64.wrap
     ((1 : Int) + nextR l (0 : Int) (2 : Int))))
     (IntKind.i64.wrap
     ((1 : Int) +
     nextR l (nextN l (0 : Int)) (4 : Int)))
     l_1)).1
     (joinR
     (splitL
     (IntKind.u32.wrap
     (IntKind.i64.wrap
     ((1 : Int) + nextR l (0 : Int) (2 : Int))))
     (IntKind.i64.wrap
     ((1 : Int) +
     nextR l (nextN l (0 : Int)) (4 : Int)))
     l_1)).1)
     (post (AV.bool false) none)
     (br
     (joinU
     (splitL
     (IntKind.u32.wrap
     (IntKind.i64.wrap
     ((1 : Int) + nextR l (0 : Int) (2 : Int))))
     (IntKind.i64.wrap
     ((1 : Int) +
     nextR l (nextN l (0 : Int)) (4 : Int)))
     l_1) !=
     joinU
     (splitL
     (IntKind.u32.wrap
     (IntKind.i64.wrap
     ((1 : Int) + nextR l (0 : Int) (2 : Int))))
     (IntKind.i64.wrap
     ((1 : Int) +
     nextR l (nextN l (0 : Int)) (4 : Int)))
     l_1))
     (post (AV.bool false) none)
     (br
     ((joinR
     (splitL
     (IntKind.u32.wrap
     (IntKind.i64.wrap
     ((1 : Int) + nextR l (0 : Int) (2 : Int))))
     (IntKind.i64.wrap
     ((1 : Int) +
     nextR l (nextN l (0 : Int)) (4 : Int)))
     l_1)).2 !=
     (joinR
     (splitL
     (IntKind.u32.wrap
     (IntKind.i64.wrap
     ((1 : Int) + nextR l (0 : Int) (2 : Int))))
     (IntKind.i64.wrap
     ((1 : Int) +
     nextR l (nextN l (0 : Int)) (4 : Int)))
     l_1)).2)
     (post (AV.bool false) none)
     (br
     (joinC
     ((splitL
     (IntKind.u32.wrap
     (IntKind.i64.wrap
     ((1 : Int) +
     nextR l (0 : Int) (2 : Int))))
     (IntKind.i64.wrap
     ((1 : Int) +
     nextR l (nextN l (0 : Int)) (4 : Int)))
     l_1).set
     (nextR l (nextN l (nextN l (0 : Int)))
     (@Nat.cast Int _
     (splitL
     (IntKind.u32.wrap
     (IntKind.i64.wrap
     ((1 : Int) +
     nextR l (0 : Int) (2 : Int))))
     (IntKind.i64.wrap
     ((1 : Int) +
     nextR l (nextN l (0 : Int))
     (4 : Int)))
     l_1).length)).toNat
     (Rec.mk
     ((splitL
     (IntKind.u32.wrap
     (IntKind.i64.wrap
     ((1 : Int) +
     nextR l (0 : Int) (2 : Int))))
     (IntKind.i64.wrap
     ((1 : Int) +
     nextR l (nextN l (0 : Int))
     (4 : Int)))
     l_1).getD
     (nextR l (nextN l (nextN l (0 : Int)))
     (@Nat.cast Int _
     (splitL
     (IntKind.u32.wrap
     (IntKind.i64.wrap
     ((1 : Int) +
     nextR l (0 : Int)
     (2 : Int))))
     (IntKind.i64.wrap
     ((1 : Int) +
     nextR l (nextN l (0 : Int))
     (4 : Int)))
     l_1).length)).toNat
     default).1
     ((splitL
     (IntKind.u32.wrap
     (IntKind.i64.wrap
     ((1 : Int) +
     nextR l (0 : Int) (2 : Int))))
     (IntKind.i64.wrap
     ((1 : Int) +
     nextR l (nextN l (0 : Int))
     (4 : Int)))
     l_1).getD
     (nextR l (nextN l (nextN l (0 : Int)))
     (@Nat.cast Int _
     (splitL
     (IntKind.u32.wrap
     (IntKind.i64.wrap
     ((1 : Int) +
     nextR l (0 : Int)
     (2 : Int))))
     (IntKind.i64.wrap
     ((1 : Int) +
     nextR l (nextN l (0 : Int))
     (4 : Int)))
     l_1).length)).toNat
     default).2
     ((splitL
     (IntKind.u32.wrap
     (IntKind.i64.wrap
     ((1 : Int) +
     nextR l (0 : Int) (2 : Int))))
     (IntKind.i64.wrap
     ((1 : Int) +
     nextR l (nextN l (0 : Int))
     (4 : Int)))
     l_1).getD
     (nextR l (nextN l (nextN l (0 : Int)))
     (@Nat.cast Int _
     (splitL
     (IntKind.u32.wrap
     (IntKind.i64.wrap
     ((1 : Int) +
     nextR l (0 : Int)
     (2 : Int))))
     (IntKind.i64.wrap
     ((1 : Int) +
     nextR l (nextN l (0 : Int))
     (4 : Int)))
     l_1).length)).toNat
     default).3
     ((splitL
     (IntKind.u32.wrap
     (IntKind.i64.wrap
     ((1 : Int) +
     nextR l (0 : Int) (2 : Int))))
     (IntKind.i64.wrap
     ((1 : Int) +
     nextR l (nextN l (0 : Int))
     (4 : Int)))
     l_1).getD
     (nextR l (nextN l (nextN l (0 : Int)))
     (@Nat.cast Int _
     (splitL
     (IntKind.u32.wrap
     (IntKind.i64.wrap
     ((1 : Int) +
     nextR l (0 : Int)
     (2 : Int))))
     (IntKind.i64.wrap
     ((1 : Int) +
     nextR l (nextN l (0 : Int))
     (4 : Int)))
     l_1).length)).toNat
     default).4
     ((splitL
     (IntKind.u32.wrap
     (IntKind.i64.wrap
     ((1 : Int) +
     nextR l (0 : Int) (2 : Int))))
     (IntKind.i64.wrap
     ((1 : Int) +
     nextR l (nextN l (0 : Int))
     (4 : Int)))
     l_1).getD
     (nextR l (nextN l (nextN l (0 : Int)))
     (@Nat.cast Int _
     (splitL
     (IntKind.u32.wrap
     (IntKind.i64.wrap
     ((1 : Int) +
     nextR l (0 : Int)
     (2 : Int))))
     (IntKind.i64.wrap
     ((1 : Int) +
     nextR l (nextN l (0 : Int))
     (4 : Int)))
     l_1).length)).toNat
     default).5
     (List.take
     (nextR l
     (nextN l
     (nextN l
     (nextN l (nextN l (0 : Int)))))
     (IntKind.i64.wrap
     (@Nat.cast Int _
     ((splitL
     (IntKind.u32.wrap
     (IntKind.i64.wrap
     ((1 : Int) +
     nextR l (0 : Int)
     (2 : Int))))
     (IntKind.i64.wrap
     ((1 : Int) +
     nextR l
     (nextN l
     (0 : Int))
     (4 : Int)))
     l_1).getD
     (nextR l
     (nextN l
     (nextN l (0 : Int)))
     (@Nat.cast Int _
     (splitL
     (IntKind.u32.wrap
     (IntKind.i64.wrap
     ((1 : Int) +
     nextR l
     (0 : Int)
     (2 :
     Int))))
     (IntKind.i64.wrap
     ((1 : Int) +
     nextR l
     (nextN l
     (0 : Int))
     (4 : Int)))
     l_1).length)).toNat
     default).6.length +
     (1 : Int)))).toNat
     ((splitL
     (IntKind.u32.wrap
     (IntKind.i64.wrap
     ((1 : Int) +
     nextR l (0 : Int) (2 : Int))))
     (IntKind.i64.wrap
     ((1 : Int) +
     nextR l (nextN l (0 : Int))
     (4 : Int)))
     l_1).getD
     (nextR l (nextN l (nextN l (0 : Int)))
     (@Nat.cast Int _
     (splitL
     (IntKind.u32.wrap
     (IntKind.i64.wrap
     ((1 : Int) +
     nextR l (0 : Int)
     (2 : Int))))
     (IntKind.i64.wrap
     ((1 : Int) +
     nextR l
     (nextN l (0 : Int))
     (4 : Int)))
     l_1).length)).toNat
     default).6))) !=
     joinC
     ((splitL
     (IntKind.u32.wrap
     (IntKind.i64.wrap
     ((1 : Int) +
     nextR l (0 : Int) (2 : Int))))
     (IntKind.i64.wrap
     ((1 : Int) +
     nextR l (nextN l (0 : Int)) (4 : Int)))
     l_1).set
     (nextR l (nextN l (nextN l (0 : Int)))
     (@Nat.cast Int _
     (splitL
     (IntKind.u32.wrap
     (IntKind.i64.wrap
     ((1 : Int) +
     nextR l (0 : Int) (2 : Int))))
     (IntKind.i64.wrap
     ((1 : Int) +
     nextR l (nextN l (0 : Int))
     (4 : Int)))
     l_1).length)).toNat
     (Rec.mk
     ((splitL
     (IntKind.u32.wrap
     (IntKind.i64.wrap
     ((1 : Int) +
     nextR l (0 : Int) (2 : Int))))
     (IntKind.i64.wrap
     ((1 : Int) +
     nextR l (nextN l (0 : Int))
     (4 : Int)))
     l_1).getD
     (nextR l (nextN l (nextN l (0 : Int)))
     (@Nat.cast Int _
     (splitL
     (IntKind.u32.wrap
     (IntKind.i64.wrap
     ((1 : Int) +
     nextR l (0 : Int)
     (2 : Int))))
     (IntKind.i64.wrap
     ((1 : Int) +
     nextR l (nextN l (0 : Int))
     (4 : Int)))
     l_1).length)).toNat
     default).1
     ((splitL
     (IntKind.u32.wrap
     (IntKind.i64.wrap
     ((1 : Int) +
     nextR l (0 : Int) (2 : Int))))
     (IntKind.i64.wrap
     ((1 : Int) +
     nextR l (nextN l (0 : Int))
     (4 : Int)))
     l_1).getD
     (nextR l (nextN l (nextN l (0 : Int)))
     (@Nat.cast Int _
     (splitL
     (IntKind.u32.wrap
     (IntKind.i64.wrap
     ((1 : Int) +
     nextR l (0 : Int)
     (2 : Int))))
     (IntKind.i64.wrap
     ((1 : Int) +
     nextR l (nextN l (0 : Int))
     (4 : Int)))
     l_1).length)).toNat
     default).2
     ((splitL
     (IntKind.u32.wrap
     (IntKind.i64.wrap
     ((1 : Int) +
     nextR l (0 : Int) (2 : Int))))
     (IntKind.i64.wrap
     ((1 : Int) +
     nextR l (nextN l (0 : Int))
     (4 : Int)))
     l_1).getD
     (nextR l (nextN l (nextN l (0 : Int)))
     (@Nat.cast Int _
     (splitL
     (IntKind.u32.wrap
     (IntKind.i64.wrap
     ((1 : Int) +
     nextR l (0 : Int)
     (2 : Int))))
     (IntKind.i64.wrap
     ((1 : Int) +
     nextR l (nextN l (0 : Int))
     (4 : Int)))
     l_1).length)).toNat
     default).3
     ((splitL
     (IntKind.u32.wrap
     (IntKind.i64.wrap
     ((1 : Int) +
     nextR l (0 : Int) (2 : Int))))
     (IntKind.i64.wrap
     ((1 : Int) +
     nextR l (nextN l (0 : Int))
     (4 : Int)))
     l_1).getD
     (nextR l (nextN l (nextN l (0 : Int)))
     (@Nat.cast Int _
     (splitL
     (IntKind.u32.wrap
     (IntKind.i64.wrap
     ((1 : Int) +
     nextR l (0 : Int)
     (2 : Int))))
     (IntKind.i64.wrap
     ((1 : Int) +
     nextR l (nextN l (0 : Int))
     (4 : Int)))
     l_1).length)).toNat
     default).4
     ((splitL
     (IntKind.u32.wrap
     (IntKind.i64.wrap
     ((1 : Int) +
     nextR l (0 : Int) (2 : Int))))
     (IntKind.i64.wrap
     ((1 : Int) +
     nextR l (nextN l (0 : Int))
     (4 : Int)))
     l_1).getD
     (nextR l (nextN l (nextN l (0 : Int)))
     (@Nat.cast Int _
     (splitL
     (IntKind.u32.wrap
     (IntKind.i64.wrap
     ((1 : Int) +
     nextR l (0 : Int)
     (2 : Int))))
     (IntKind.i64.wrap
     ((1 : Int) +
     nextR l (nextN l (0 : Int))
     (4 : Int)))
     l_1).length)).toNat
     default).5
     (List.take
     (nextR l
     (nextN l
     (nextN l
     (nextN l (nextN l (0 : Int)))))
     (IntKind.i64.wrap
     (@Nat.cast Int _
     ((splitL
     (IntKind.u32.wrap
     (IntKind.i64.wrap
     ((1 : Int) +
     nextR l (0 : Int)
     (2 : Int))))
     (IntKind.i64.wrap
     ((1 : Int) +
     nextR l
     (nextN l
     (0 : Int))
     (4 : Int)))
     l_1).getD
     (nextR l
     (nextN l
     (nextN l (0 : Int)))
     (@Nat.cast Int _
     (splitL
     (IntKind.u32.wrap
     (IntKind.i64.wrap
     ((1 : Int) +
     nextR l
     (0 : Int)
     (2 :
     Int))))
     (IntKind.i64.wrap
     ((1 : Int) +
     nextR l
     (nextN l
     (0 : Int))
     (4 : Int)))
     l_1).length)).toNat
     default).6.length +
     (1 : Int)))).toNat
     ((splitL
     (IntKind.u32.wrap
     (IntKind.i64.wrap
     ((1 : Int) +
     nextR l (0 : Int) (2 : Int))))
     (IntKind.i64.wrap
     ((1 : Int) +
     nextR l (nextN l (0 : Int))
     (4 : Int)))
     l_1).getD
     (nextR l (nextN l (nextN l (0 : Int)))
     (@Nat.cast Int _
     (splitL
     (IntKind.u32.wrap
     (IntKind.i64.wrap
     ((1 : Int) +
     nextR l (0 : Int)
     (2 : Int))))
     (IntKind.i64.wrap
     ((1 : Int) +
     nextR l
     (nextN l (0 : Int))
     (4 : Int)))
     l_1).length)).toNat
     default).6))))
     (post (AV.bool false) none)
     (br
     (!strEq
     (joinR
     ((splitL
     (IntKind.u32.wrap
     (IntKind.i64.wrap
     ((1 : Int) +
     nextR l (0 : Int) (2 : Int))))
     (IntKind.i64.wrap
     ((1 : Int) +
     nextR l (nextN l (0 : Int))
     (4 : Int)))
     l_1).set
     (nextR l (nextN l (nextN l (0 : Int)))
     (@Nat.cast Int _
     (splitL
     (IntKind.u32.wrap
     (IntKind.i64.wrap
     ((1 : Int) +
     nextR l (0 : Int)
     (2 : Int))))
     (IntKind.i64.wrap
     ((1 : Int) +
     nextR l (nextN l (0 : Int))
     (4 : Int)))
     l_1).length)).toNat
     (Rec.mk
     ((splitL
     (IntKind.u32.wrap
     (IntKind.i64.wrap
     ((1 : Int) +
     nextR l (0 : Int)
     (2 : Int))))
     (IntKind.i64.wrap
     ((1 : Int) +
     nextR l (nextN l (0 : Int))
     (4 : Int)))
     l_1).getD
     (nextR l
     (nextN l (nextN l (0 : Int)))
     (@Nat.cast Int _
     (splitL
     (IntKind.u32.wrap
     (IntKind.i64.wrap
     ((1 : Int) +
     nextR l (0 : Int)
     (2 : Int))))
     (IntKind.i64.wrap
     ((1 : Int) +
     nextR l
     (nextN l (0 : Int))
     (4 : Int)))
     l_1).length)).toNat
     default).1
     ((splitL
     (IntKind.u32.wrap
     (IntKind.i64.wrap
     ((1 : Int) +
     nextR l (0 : Int)
     (2 : Int))))
     (IntKind.i64.wrap
     ((1 : Int) +
     nextR l (nextN l (0 : Int))
     (4 : Int)))
     l_1).getD
     (nextR l
     (nextN l (nextN l (0 : Int)))
     (@Nat.cast Int _
     (splitL
     (IntKind.u32.wrap
     (IntKind.i64.wrap
     ((1 : Int) +
     nextR l (0 : Int)
     (2 : Int))))
     (IntKind.i64.wrap
     ((1 : Int) +
     nextR l
     (nextN l (0 : Int))
     (4 : Int)))
     l_1).length)).toNat
     default).2
     ((splitL
     (IntKind.u32.wrap
     (IntKind.i64.wrap
     ((1 : Int) +
     nextR l (0 : Int)
     (2 : Int))))
     (IntKind.i64.wrap
     ((1 : Int) +
     nextR l (nextN l (0 : Int))
     (4 : Int)))
     l_1).getD
     (nextR l
     (nextN l (nextN l (0 : Int)))
     (@Nat.cast Int _
     (splitL
     (IntKind.u32.wrap
     (IntKind.i64.wrap
     ((1 : Int) +
     nextR l (0 : Int)
     (2 : Int))))
     (IntKind.i64.wrap
     ((1 : Int) +
     nextR l
     (nextN l (0 : Int))
     (4 : Int)))
     l_1).length)).toNat
     default).3
     ((splitL
     (IntKind.u32.wrap
     (IntKind.i64.wrap
     ((1 : Int) +
     nextR l (0 : Int)
     (2 : Int))))
     (IntKind.i64.wrap
     ((1 : Int) +
     nextR l (nextN l (0 : Int))
     (4 : Int)))
     l_1).getD
     (nextR l
     (nextN l (nextN l (0 : Int)))
     (@Nat.cast Int _
     (splitL
     (IntKind.u32.wrap
     (IntKind.i64.wrap
     ((1 : Int) +
     nextR l (0 : Int)
     (2 : Int))))
     (IntKind.i64.wrap
     ((1 : Int) +
     nextR l
     (nextN l (0 : Int))
     (4 : Int)))
     l_1).length)).toNat
     default).4
     ((splitL
     (IntKind.u32.wrap
     (IntKind.i64.wrap
     ((1 : Int) +
     nextR l (0 : Int)
     (2 : Int))))
     (IntKind.i64.wrap
     ((1 : Int) +
     nextR l (nextN l (0 : Int))
     (4 : Int)))
     l_1).getD
     (nextR l
     (nextN l (nextN l (0 : Int)))
     (@Nat.cast Int _
     (splitL
     (IntKind.u32.wrap
     (IntKind.i64.wrap
     ((1 : Int) +
     nextR l (0 : Int)
     (2 : Int))))
     (IntKind.i64.wrap
     ((1 : Int) +
     nextR l
     (nextN l (0 : Int))
     (4 : Int)))
     l_1).length)).toNat
     default).5
     (List.take
     (nextR l
     (nextN l
     (nextN l
     (nextN l
     (nextN l (0 : Int)))))
     (IntKind.i64.wrap
     (@Nat.cast Int _
     ((splitL
     (IntKind.u32.wrap
     (IntKind.i64.wrap
     ((1 : Int) +
     nextR l
     (0 : Int)
     (2 :
     Int))))
     (IntKind.i64.wrap
     ((1 : Int) +
     nextR l
     (nextN l
     (0 : Int))
     (4 : Int)))
     l_1).getD
     (nextR l
     (nextN l
     (nextN l
     (0 : Int)))
     (@Nat.cast Int _
     (splitL
     (IntKind.u32.wrap
     (IntKind.i64.wrap
     ((1 :
     Int) +
     nextR
     l
     (0 :
     Int)
     (2 :
     Int))))
     (IntKind.i64.wrap
     ((1 :
     Int) +
     nextR l
     (nextN
     l
     (0 :
     Int))
     (4 :
     Int)))
     l_1).length)).toNat
     default).6.length +
     (1 : Int)))).toNat
     ((splitL
     (IntKind.u32.wrap
     (IntKind.i64.wrap
     ((1 : Int) +
     nextR l (0 : Int)
     (2 : Int))))
     (IntKind.i64.wrap
     ((1 : Int) +
     nextR l
     (nextN l (0 : Int))
     (4 : Int)))
     l_1).getD
     (nextR l
     (nextN l (nextN l (0 : Int)))
     (@Nat.cast Int _
     (splitL
     (IntKind.u32.wrap
     (IntKind.i64.wrap
     ((1 : Int) +
     nextR l (0 : Int)
     (2 : Int))))
     (IntKind.i64.wrap
     ((1 : Int) +
     nextR l
     (nextN l
     (0 : Int))
     (4 : Int)))
     l_1).length)).toNat
     default).6)))).1
     (joinR
     ((splitL
     (IntKind.u32.wrap
     (IntKind.i64.wrap
     ((1 : Int) +
     nextR l (0 : Int) (2 : Int))))
     (IntKind.i64.wrap
     ((1 : Int) +
     nextR l (nextN l (0 : Int))
     (4 : Int)))
     l_1).set
     (nextR l (nextN l (nextN l (0 : Int)))
     (@Nat.cast Int _
     (splitL
     (IntKind.u32.wrap
     (IntKind.i64.wrap
     ((1 : Int) +
     nextR l (0 : Int)
     (2 : Int))))
     (IntKind.i64.wrap
     ((1 : Int) +
     nextR l (nextN l (0 : Int))
     (4 : Int)))
     l_1).length)).toNat
     (Rec.mk
     ((splitL
     (IntKind.u32.wrap
     (IntKind.i64.wrap
     ((1 : Int) +
     nextR l (0 : Int)
     (2 : Int))))
     (IntKind.i64.wrap
     ((1 : Int) +
     nextR l (nextN l (0 : Int))
     (4 : Int)))
     l_1).getD
     (nextR l
     (nextN l (nextN l (0 : Int)))
     (@Nat.cast Int _
     (splitL
     (IntKind.u32.wrap
     (IntKind.i64.wrap
     ((1 : Int) +
     nextR l (0 : Int)
     (2 : Int))))
     (IntKind.i64.wrap
     ((1 : Int) +
     nextR l
     (nextN l (0 : Int))
     (4 : Int)))
     l_1).length)).toNat
     default).1
     ((splitL
     (IntKind.u32.wrap
     (IntKind.i64.wrap
     ((1 : Int) +
     nextR l (0 : Int)
     (2 : Int))))
     (IntKind.i64.wrap
     ((1 : Int) +
     nextR l (nextN l (0 : Int))
     (4 : Int)))
     l_1).getD
     (nextR l
     (nextN l (nextN l (0 : Int)))
     (@Nat.cast Int _
     (splitL
     (IntKind.u32.wrap
     (IntKind.i64.wrap
     ((1 : Int) +
     nextR l (0 : Int)
     (2 : Int))))
     (IntKind.i64.wrap
     ((1 : Int) +
     nextR l
     (nextN l (0 : Int))
     (4 : Int)))
     l_1).length)).toNat
     default).2
     ((splitL
     (IntKind.u32.wrap
     (IntKind.i64.wrap
     ((1 : Int) +
     nextR l (0 : Int)
     (2 : Int))))
     (IntKind.i64.wrap
     ((1 : Int) +
     nextR l (nextN l (0 : Int))
     (4 : Int)))
     l_1).getD
     (nextR l
     (nextN l (nextN l (0 : Int)))
     (@Nat.cast Int _
     (splitL
     (IntKind.u32.wrap
     (IntKind.i64.wrap
     ((1 : Int) +
     nextR l (0 : Int)
     (2 : Int))))
     (IntKind.i64.wrap
     ((1 : Int) +
     nextR l
     (nextN l (0 : Int))
     (4 : Int)))
     l_1).length)).toNat
     default).3
     ((splitL
     (IntKind.u32.wrap
     (IntKind.i64.wrap
     ((1 : Int) +
     nextR l (0 : Int)
     (2 : Int))))
     (IntKind.i64.wrap
     ((1 : Int) +
     nextR l (nextN l (0 : Int))
     (4 : Int)))
     l_1).getD
     (nextR l
     (nextN l (nextN l (0 : Int)))
     (@Nat.cast Int _
     (splitL
     (IntKind.u32.wrap
     (IntKind.i64.wrap
     ((1 : Int) +
     nextR l (0 : Int)
     (2 : Int))))
     (IntKind.i64.wrap
     ((1 : Int) +
     nextR l
     (nextN l (0 : Int))
     (4 : Int)))
     l_1).length)).toNat
     default).4
     ((splitL
     (IntKind.u32.wrap
     (IntKind.i64.wrap
     ((1 : Int) +
     nextR l (0 : Int)
     (2 : Int))))
     (IntKind.i64.wrap
     ((1 : Int) +
     nextR l (nextN l (0 : Int))
     (4 : Int)))
     l_1).getD
     (nextR l
     (nextN l (nextN l (0 : Int)))
     (@Nat.cast Int _
     (splitL
     (IntKind.u32.wrap
     (IntKind.i64.wrap
     ((1 : Int) +
     nextR l (0 : Int)
     (2 : Int))))
     (IntKind.i64.wrap
     ((1 : Int) +
     nextR l
     (nextN l (0 : Int))
     (4 : Int)))
     l_1).length)).toNat
     default).5
     (List.take
     (nextR l
     (nextN l
     (nextN l
     (nextN l
     (nextN l (0 : Int)))))
     (IntKind.i64.wrap
     (@Nat.cast Int _
     ((splitL
     (IntKind.u32.wrap
     (IntKind.i64.wrap
     ((1 : Int) +
     nextR l
     (0 : Int)
     (2 :
     Int))))
     (IntKind.i64.wrap
     ((1 : Int) +
     nextR l
     (nextN l
     (0 : Int))
     (4 : Int)))
     l_1).getD
     (nextR l
     (nextN l
     (nextN l
     (0 : Int)))
     (@Nat.cast Int _
     (splitL
     (IntKind.u32.wrap
     (IntKind.i64.wrap
     ((1 :
     Int) +
     nextR
     l
     (0 :
     Int)
     (2 :
     Int))))
     (IntKind.i64.wrap
     ((1 :
     Int) +
     nextR l
     (nextN
     l
     (0 :
     Int))
     (4 :
     Int)))
     l_1).length)).toNat
     default).6.length +
     (1 : Int)))).toNat
     ((splitL
     (IntKind.u32.wrap
     (IntKind.i64.wrap
     ((1 : Int) +
     nextR l (0 : Int)
     (2 : Int))))
     (IntKind.i64.wrap
     ((1 : Int) +
     nextR l
     (nextN l (0 : Int))
     (4 : Int)))
     l_1).getD
     (nextR l
     (nextN l (nextN l (0 : Int)))
     (@Nat.cast Int _
     (splitL
     (IntKind.u32.wrap
     (IntKind.i64.wrap
     ((1 : Int) +
     nextR l (0 : Int)
     (2 : Int))))
     (IntKind.i64.wrap
     ((1 : Int) +
     nextR l
     (nextN l
     (0 : Int))
     (4 : Int)))
     l_1).length)).toNat
     default).6)))).1)
     (post (AV.bool false) none)
     (br
     (joinU
     ((splitL
     (IntKind.u32.wrap
     (IntKind.i64.wrap
     ((1 : Int) +
     nextR l (0 : Int) (2 : Int))))
     (IntKind.i64.wrap
     ((1 : Int) +
     nextR l (nextN l (0 : Int))
     (4 : Int)))
     l_1).set
     (nextR l (nextN l (nextN l (0 : Int)))
     (@Nat.cast Int _
     (splitL
     (IntKind.u32.wrap
     (IntKind.i64.wrap
     ((1 : Int) +
     nextR l (0 : Int)
     (2 : Int))))
     (IntKind.i64.wrap
     ((1 : Int) +
     nextR l (nextN l (0 : Int))
     (4 : Int)))
     l_1).length)).toNat
     (Rec.mk
     ((splitL
     (IntKind.u32.wrap
     (IntKind.i64.wrap
     ((1 : Int) +
     nextR l (0 : Int)
     (2 : Int))))
     (IntKind.i64.wrap
     ((1 : Int) +
     nextR l (nextN l (0 : Int))
     (4 : Int)))
     l_1).getD
     (nextR l (nextN l (nextN l (0 : Int)))
     (@Nat.cast Int _
     (splitL
     (IntKind.u32.wrap
     (IntKind.i64.wrap
     ((1 : Int) +
     nextR l (0 : Int)
     (2 : Int))))
     (IntKind.i64.wrap
     ((1 : Int) +
     nextR l
     (nextN l (0 : Int))
     (4 : Int)))
     l_1).length)).toNat
     default).1
     ((splitL
     (IntKind.u32.wrap
     (IntKind.i64.wrap
     ((1 : Int) +
     nextR l (0 : Int)
     (2 : Int))))
     (IntKind.i64.wrap
     ((1 : Int) +
     nextR l (nextN l (0 : Int))
     (4 : Int)))
     l_1).getD
     (nextR l (nextN l (nextN l (0 : Int)))
     (@Nat.cast Int _
     (splitL
     (IntKind.u32.wrap
     (IntKind.i64.wrap
     ((1 : Int) +
     nextR l (0 : Int)
     (2 : Int))))
     (IntKind.i64.wrap
     ((1 : Int) +
     nextR l
     (nextN l (0 : Int))
     (4 : Int)))
     l_1).length)).toNat
     default).2
     ((splitL
     (IntKind.u32.wrap
     (IntKind.i64.wrap
     ((1 : Int) +
     nextR l (0 : Int)
     (2 : Int))))
     (IntKind.i64.wrap
     ((1 : Int) +
     nextR l (nextN l (0 : Int))
     (4 : Int)))
     l_1).getD
     (nextR l (nextN l (nextN l (0 : Int)))
     (@Nat.cast Int _
     (splitL
     (IntKind.u32.wrap
     (IntKind.i64.wrap
     ((1 : Int) +
     nextR l (0 : Int)
     (2 : Int))))
     (IntKind.i64.wrap
     ((1 : Int) +
     nextR l
     (nextN l (0 : Int))
     (4 : Int)))
     l_1).length)).toNat
     default).3
     ((splitL
     (IntKind.u32.wrap
     (IntKind.i64.wrap
     ((1 : Int) +
     nextR l (0 : Int)
     (2 : Int))))
     (IntKind.i64.wrap
     ((1 : Int) +
     nextR l (nextN l (0 : Int))
     (4 : Int)))
     l_1).getD
     (nextR l (nextN l (nextN l (0 : Int)))
     (@Nat.cast Int _
     (splitL
     (IntKind.u32.wrap
     (IntKind.i64.wrap
     ((1 : Int) +
     nextR l (0 : Int)
     (2 : Int))))
     (IntKind.i64.wrap
     ((1 : Int) +
     nextR l
     (nextN l (0 : Int))
     (4 : Int)))
     l_1).length)).toNat
     default).4
     ((splitL
     (IntKind.u32.wrap
     (IntKind.i64.wrap
     ((1 : Int) +
     nextR l (0 : Int)
     (2 : Int))))
     (IntKind.i64.wrap
     ((1 : Int) +
     nextR l (nextN l (0 : Int))
     (4 : Int)))
     l_1).getD
     (nextR l (nextN l (nextN l (0 : Int)))
     (@Nat.cast Int _
     (splitL
     (IntKind.u32.wrap
     (IntKind.i64.wrap
     ((1 : Int) +
     nextR l (0 : Int)
     (2 : Int))))
     (IntKind.i64.wrap
     ((1 : Int) +
     nextR l
     (nextN l (0 : Int))
     (4 : Int)))
     l_1).length)).toNat
     default).5
     (List.take
     (nextR l
     (nextN l
     (nextN l
     (nextN l (nextN l (0 : Int)))))
     (IntKind.i64.wrap
     (@Nat.cast Int _
     ((splitL
     (IntKind.u32.wrap
     (IntKind.i64.wrap
     ((1 : Int) +
     nextR l
     (0 : Int)
     (2 : Int))))
     (IntKind.i64.wrap
     ((1 : Int) +
     nextR l
     (nextN l
     (0 : Int))
     (4 : Int)))
     l_1).getD
     (nextR l
     (nextN l
     (nextN l
     (0 : Int)))
     (@Nat.cast Int _
     (splitL
     (IntKind.u32.wrap
     (IntKind.i64.wrap
     ((1 :
     Int) +
     nextR l
     (0 :
     Int)
     (2 :
     Int))))
     (IntKind.i64.wrap
     ((1 : Int) +
     nextR l
     (nextN l
     (0 :
     Int))
     (4 :
     Int)))
     l_1).length)).toNat
     default).6.length +
     (1 : Int)))).toNat
     ((splitL
     (IntKind.u32.wrap
     (IntKind.i64.wrap
     ((1 : Int) +
     nextR l (0 : Int)
     (2 : Int))))
     (IntKind.i64.wrap
     ((1 : Int) +
     nextR l (nextN l (0 : Int))
     (4 : Int)))
     l_1).getD
     (nextR l
     (nextN l (nextN l (0 : Int)))
     (@Nat.cast Int _
     (splitL
     (IntKind.u32.wrap
     (IntKind.i64.wrap
     ((1 : Int) +
     nextR l (0 : Int)
     (2 : Int))))
     (IntKind.i64.wrap
     ((1 : Int) +
     nextR l
     (nextN l (0 : Int))
     (4 : Int)))
     l_1).length)).toNat
     default).6))) !=
     joinU
     ((splitL
     (IntKind.u32.wrap
     (IntKind.i64.wrap
     ((1 : Int) +
     nextR l (0 : Int) (2 : Int))))
     (IntKind.i64.wrap
     ((1 : Int) +
     nextR l (nextN l (0 : Int))
     (4 : Int)))
     l_1).set
     (nextR l (nextN l (nextN l (0 : Int)))
     (@Nat.cast Int _
     (splitL
     (IntKind.u32.wrap
     (IntKind.i64.wrap
     ((1 : Int) +
     nextR l (0 : Int)
     (2 : Int))))
     (IntKind.i64.wrap
     ((1 : Int) +
     nextR l (nextN l (0 : Int))
     (4 : Int)))
     l_1).length)).toNat
     (Rec.mk
     ((splitL
     (IntKind.u32.wrap
     (IntKind.i64.wrap
     ((1 : Int) +
     nextR l (0 : Int)
     (2 : Int))))
     (IntKind.i64.wrap
     ((1 : Int) +
     nextR l (nextN l (0 : Int))
     (4 : Int)))
     l_1).getD
     (nextR l (nextN l (nextN l (0 : Int)))
     (@Nat.cast Int _
     (splitL
     (IntKind.u32.wrap
     (IntKind.i64.wrap
     ((1 : Int) +
     nextR l (0 : Int)
     (2 : Int))))
     (IntKind.i64.wrap
     ((1 : Int) +
     nextR l
     (nextN l (0 : Int))
     (4 : Int)))
     l_1).length)).toNat
     default).1
     ((splitL
     (IntKind.u32.wrap
     (IntKind.i64.wrap
     ((1 : Int) +
     nextR l (0 : Int)
     (2 : Int))))
     (IntKind.i64.wrap
     ((1 : Int) +
     nextR l (nextN l (0 : Int))
     (4 : Int)))
     l_1).getD
     (nextR l (nextN l (nextN l (0 : Int)))
     (@Nat.cast Int _
     (splitL
     (IntKind.u32.wrap
     (IntKind.i64.wrap
     ((1 : Int) +
     nextR l (0 : Int)
     (2 : Int))))
     (IntKind.i64.wrap
     ((1 : Int) +
     nextR l
     (nextN l (0 : Int))
     (4 : Int)))
     l_1).length)).toNat
     default).2
     ((splitL
     (IntKind.u32.wrap
     (IntKind.i64.wrap
     ((1 : Int) +
     nextR l (0 : Int)
     (2 : Int))))
     (IntKind.i64.wrap
     ((1 : Int) +
     nextR l (nextN l (0 : Int))
     (4 : Int)))
     l_1).getD
     (nextR l (nextN l (nextN l (0 : Int)))
     (@Nat.cast Int _
     (splitL
     (IntKind.u32.wrap
     (IntKind.i64.wrap
     ((1 : Int) +
     nextR l (0 : Int)
     (2 : Int))))
     (IntKind.i64.wrap
     ((1 : Int) +
     nextR l
     (nextN l (0 : Int))
     (4 : Int)))
     l_1).length)).toNat
     default).3
     ((splitL
     (IntKind.u32.wrap
     (IntKind.i64.wrap
     ((1 : Int) +
     nextR l (0 : Int)
     (2 : Int))))
     (IntKind.i64.wrap
     ((1 : Int) +
     nextR l (nextN l (0 : Int))
     (4 : Int)))
     l_1).getD
     (nextR l (nextN l (nextN l (0 : Int)))
     (@Nat.cast Int _
     (splitL
     (IntKind.u32.wrap
     (IntKind.i64.wrap
     ((1 : Int) +
     nextR l (0 : Int)
     (2 : Int))))
     (IntKind.i64.wrap
     ((1 : Int) +
     nextR l
     (nextN l (0 : Int))
     (4 : Int)))
     l_1).length)).toNat
     default).4
     ((splitL
     (IntKind.u32.wrap
     (IntKind.i64.wrap
     ((1 : Int) +
     nextR l (0 : Int)
     (2 : Int))))
     (IntKind.i64.wrap
     ((1 : Int) +
     nextR l (nextN l (0 : Int))
     (4 : Int)))
     l_1).getD
     (nextR l (nextN l (nextN l (0 : Int)))
     (@Nat.cast Int _
     (splitL
     (IntKind.u32.wrap
     (IntKind.i64.wrap
     ((1 : Int) +
     nextR l (0 : Int)
     (2 : Int))))
     (IntKind.i64.wrap
     ((1 : Int) +
     nextR l
     (nextN l (0 : Int))
     (4 : Int)))
     l_1).length)).toNat
     default).5
     (List.take
     (nextR l
     (nextN l
     (nextN l
     (nextN l (nextN l (0 : Int)))))
     (IntKind.i64.wrap
     (@Nat.cast Int _
     ((splitL
     (IntKind.u32.wrap
     (IntKind.i64.wrap
     ((1 : Int) +
     nextR l
     (0 : Int)
     (2 : Int))))
     (IntKind.i64.wrap
     ((1 : Int) +
     nextR l
     (nextN l
     (0 : Int))
     (4 : Int)))
     l_1).getD
     (nextR l
     (nextN l
     (nextN l
     (0 : Int)))
     (@Nat.cast Int _
     (splitL
     (IntKind.u32.wrap
     (IntKind.i64.wrap
     ((1 :
     Int) +
     nextR l
     (0 :
     Int)
     (2 :
     Int))))
     (IntKind.i64.wrap
     ((1 : Int) +
     nextR l
     (nextN l
     (0 :
     Int))
     (4 :
     Int)))
     l_1).length)).toNat
     default).6.length +
     (1 : Int)))).toNat
     ((splitL
     (IntKind.u32.wrap
     (IntKind.i64.wrap
     ((1 : Int) +
     nextR l (0 : Int)
     (2 : Int))))
     (IntKind.i64.wrap
     ((1 : Int) +
     nextR l (nextN l (0 : Int))
     (4 : Int)))
     l_1).getD
     (nextR l
     (nextN l (nextN l (0 : Int)))
     (@Nat.cast Int _
     (splitL
     (IntKind.u32.wrap
     (IntKind.i64.wrap
     ((1 : Int) +
     nextR l (0 : Int)
     (2 : Int))))
     (IntKind.i64.wrap
     ((1 : Int) +
     nextR l
     (nextN l (0 : Int))
     (4 : Int)))
     l_1).length)).toNat
     default).6))))
     (post (AV.bool false) none)
     (br
     ((joinR
     ((splitL
     (IntKind.u32.wrap
     (IntKind.i64.wrap
     ((1 : Int) +
     nextR l (0 : Int) (2 : Int))))
     (IntKind.i64.wrap
     ((1 : Int) +
     nextR l (nextN l (0 : Int))
     (4 : Int)))
     l_1).set
     (nextR l (nextN l (nextN l (0 : Int)))
     (@Nat.cast Int _
     (splitL
     (IntKind.u32.wrap
     (IntKind.i64.wrap
     ((1 : Int) +
     nextR l (0 : Int)
     (2 : Int))))
     (IntKind.i64.wrap
     ((1 : Int) +
     nextR l
     (nextN l (0 : Int))
     (4 : Int)))
     l_1).length)).toNat
     (Rec.mk
     ((splitL
     (IntKind.u32.wrap
     (IntKind.i64.wrap
     ((1 : Int) +
     nextR l (0 : Int)
     (2 : Int))))
     (IntKind.i64.wrap
     ((1 : Int) +
     nextR l
     (nextN l (0 : Int))
     (4 : Int)))
     l_1).getD
     (nextR l
     (nextN l (nextN l (0 : Int)))
     (@Nat.cast Int _
     (splitL
     (IntKind.u32.wrap
     (IntKind.i64.wrap
     ((1 : Int) +
     nextR l (0 : Int)
     (2 : Int))))
     (IntKind.i64.wrap
     ((1 : Int) +
     nextR l
     (nextN l
     (0 : Int))
     (4 : Int)))
     l_1).length)).toNat
     default).1
     ((splitL
     (IntKind.u32.wrap
     (IntKind.i64.wrap
     ((1 : Int) +
     nextR l (0 : Int)
     (2 : Int))))
     (IntKind.i64.wrap
     ((1 : Int) +
     nextR l
     (nextN l (0 : Int))
     (4 : Int)))
     l_1).getD
     (nextR l
     (nextN l (nextN l (0 : Int)))
     (@Nat.cast Int _
     (splitL
     (IntKind.u32.wrap
     (IntKind.i64.wrap
     ((1 : Int) +
     nextR l (0 : Int)
     (2 : Int))))
     (IntKind.i64.wrap
     ((1 : Int) +
     nextR l
     (nextN l
     (0 : Int))
     (4 : Int)))
     l_1).length)).toNat
     default).2
     ((splitL
     (IntKind.u32.wrap
     (IntKind.i64.wrap
     ((1 : Int) +
     nextR l (0 : Int)
     (2 : Int))))
     (IntKind.i64.wrap
     ((1 : Int) +
     nextR l
     (nextN l (0 : Int))
     (4 : Int)))
     l_1).getD
     (nextR l
     (nextN l (nextN l (0 : Int)))
     (@Nat.cast Int _
     (splitL
     (IntKind.u32.wrap
     (IntKind.i64.wrap
     ((1 : Int) +
     nextR l (0 : Int)
     (2 : Int))))
     (IntKind.i64.wrap
     ((1 : Int) +
     nextR l
     (nextN l
     (0 : Int))
     (4 : Int)))
     l_1).length)).toNat
     default).3
     ((splitL
     (IntKind.u32.wrap
     (IntKind.i64.wrap
     ((1 : Int) +
     nextR l (0 : Int)
     (2 : Int))))
     (IntKind.i64.wrap
     ((1 : Int) +
     nextR l
     (nextN l (0 : Int))
     (4 : Int)))
     l_1).getD
     (nextR l
     (nextN l (nextN l (0 : Int)))
     (@Nat.cast Int _
     (splitL
     (IntKind.u32.wrap
     (IntKind.i64.wrap
     ((1 : Int) +
     nextR l (0 : Int)
     (2 : Int))))
     (IntKind.i64.wrap
     ((1 : Int) +
     nextR l
     (nextN l
     (0 : Int))
     (4 : Int)))
     l_1).length)).toNat
     default).4
     ((splitL
     (IntKind.u32.wrap
     (IntKind.i64.wrap
     ((1 : Int) +
     nextR l (0 : Int)
     (2 : Int))))
     (IntKind.i64.wrap
     ((1 : Int) +
     nextR l
     (nextN l (0 : Int))
     (4 : Int)))
     l_1).getD
     (nextR l
     (nextN l (nextN l (0 : Int)))
     (@Nat.cast Int _
     (splitL
     (IntKind.u32.wrap
     (IntKind.i64.wrap
     ((1 : Int) +
     nextR l (0 : Int)
     (2 : Int))))
     (IntKind.i64.wrap
     ((1 : Int) +
     nextR l
     (nextN l
     (0 : Int))
     (4 : Int)))
     l_1).length)).toNat
     default).5
     (List.take
     (nextR l
     (nextN l
     (nextN l
     (nextN l
     (nextN l (0 : Int)))))
     (IntKind.i64.wrap
     (@Nat.cast Int _
     ((splitL
     (IntKind.u32.wrap
     (IntKind.i64.wrap
     ((1 : Int) +
     nextR l
     (0 :
     Int)
     (2 :
     Int))))
     (IntKind.i64.wrap
     ((1 : Int) +
     nextR l
     (nextN l
     (0 :
     Int))
     (4 :
     Int)))
     l_1).getD
     (nextR l
     (nextN l
     (nextN l
     (0 : Int)))
     (@Nat.cast Int _
     (splitL
     (IntKind.u32.wrap
     (IntKind.i64.wrap
     ((1 :
     Int) +
     nextR
     l
     (0 :
     Int)
     (2 :
     Int))))
     (IntKind.i64.wrap
     ((1 :
     Int) +
     nextR
     l
     (nextN
     l
     (0 :
     Int))
     (4 :
     Int)))
     l_1).length)).toNat
     default).6.length +
     (1 : Int)))).toNat
     ((splitL
     (IntKind.u32.wrap
     (IntKind.i64.wrap
     ((1 : Int) +
     nextR l (0 : Int)
     (2 : Int))))
     (IntKind.i64.wrap
     ((1 : Int) +
     nextR l
     (nextN l (0 : Int))
     (4 : Int)))
     l_1).getD
     (nextR l
     (nextN l
     (nextN l (0 : Int)))
     (@Nat.cast Int _
     (splitL
     (IntKind.u32.wrap
     (IntKind.i64.wrap
     ((1 : Int) +
     nextR l
     (0 : Int)
     (2 : Int))))
     (IntKind.i64.wrap
     ((1 : Int) +
     nextR l
     (nextN l
     (0 : Int))
     (4 : Int)))
     l_1).length)).toNat
     default).6)))).2 !=
     (joinR
     ((splitL
     (IntKind.u32.wrap
     (IntKind.i64.wrap
     ((1 : Int) +
     nextR l (0 : Int) (2 : Int))))
     (IntKind.i64.wrap
     ((1 : Int) +
     nextR l (nextN l (0 : Int))
     (4 : Int)))
     l_1).set
     (nextR l (nextN l (nextN l (0 : Int)))
     (@Nat.cast Int _
     (splitL
     (IntKind.u32.wrap
     (IntKind.i64.wrap
     ((1 : Int) +
     nextR l (0 : Int)
     (2 : Int))))
     (IntKind.i64.wrap
     ((1 : Int) +
     nextR l
     (nextN l (0 : Int))
     (4 : Int)))
     l_1).length)).toNat
     (Rec.mk
     ((splitL
     (IntKind.u32.wrap
     (IntKind.i64.wrap
     ((1 : Int) +
     nextR l (0 : Int)
     (2 : Int))))
     (IntKind.i64.wrap
     ((1 : Int) +
     nextR l
     (nextN l (0 : Int))
     (4 : Int)))
     l_1).getD
     (nextR l
     (nextN l (nextN l (0 : Int)))
     (@Nat.cast Int _
     (splitL
     (IntKind.u32.wrap
     (IntKind.i64.wrap
     ((1 : Int) +
     nextR l (0 : Int)
     (2 : Int))))
     (IntKind.i64.wrap
     ((1 : Int) +
     nextR l
     (nextN l
     (0 : Int))
     (4 : Int)))
     l_1).length)).toNat
     default).1
     ((splitL
     (IntKind.u32.wrap
     (IntKind.i64.wrap
     ((1 : Int) +
     nextR l (0 : Int)
     (2 : Int))))
     (IntKind.i64.wrap
     ((1 : Int) +
     nextR l
     (nextN l (0 : Int))
     (4 : Int)))
     l_1).getD
     (nextR l
     (nextN l (nextN l (0 : Int)))
     (@Nat.cast Int _
     (splitL
     (IntKind.u32.wrap
     (IntKind.i64.wrap
     ((1 : Int) +
     nextR l (0 : Int)
     (2 : Int))))
     (IntKind.i64.wrap
     ((1 : Int) +
     nextR l
     (nextN l
     (0 : Int))
     (4 : Int)))
     l_1).length)).toNat
     default).2
     ((splitL
     (IntKind.u32.wrap
     (IntKind.i64.wrap
     ((1 : Int) +
     nextR l (0 : Int)
     (2 : Int))))
     (IntKind.i64.wrap
     ((1 : Int) +
     nextR l
     (nextN l (0 : Int))
     (4 : Int)))
     l_1).getD
     (nextR l
     (nextN l (nextN l (0 : Int)))
     (@Nat.cast Int _
     (splitL
     (IntKind.u32.wrap
     (IntKind.i64.wrap
     ((1 : Int) +
     nextR l (0 : Int)
     (2 : Int))))
     (IntKind.i64.wrap
     ((1 : Int) +
     nextR l
     (nextN l
     (0 : Int))
     (4 : Int)))
     l_1).length)).toNat
     default).3
     ((splitL
     (IntKind.u32.wrap
     (IntKind.i64.wrap
     ((1 : Int) +
     nextR l (0 : Int)
     (2 : Int))))
     (IntKind.i64.wrap
     ((1 : Int) +
     nextR l
     (nextN l (0 : Int))
     (4 : Int)))
     l_1).getD
     (nextR l
     (nextN l (nextN l (0 : Int)))
     (@Nat.cast Int _
     (splitL
     (IntKind.u32.wrap
     (IntKind.i64.wrap
     ((1 : Int) +
     nextR l (0 : Int)
     (2 : Int))))
     (IntKind.i64.wrap
     ((1 : Int) +
     nextR l
     (nextN l
     (0 : Int))
     (4 : Int)))
     l_1).length)).toNat
     default).4
     ((splitL
     (IntKind.u32.wrap
     (IntKind.i64.wrap
     ((1 : Int) +
     nextR l (0 : Int)
     (2 : Int))))
     (IntKind.i64.wrap
     ((1 : Int) +
     nextR l
     (nextN l (0 : Int))
     (4 : Int)))
     l_1).getD
     (nextR l
     (nextN l (nextN l (0 : Int)))
     (@Nat.cast Int _
     (splitL
     (IntKind.u32.wrap
     (IntKind.i64.wrap
     ((1 : Int) +
     nextR l (0 : Int)
     (2 : Int))))
     (IntKind.i64.wrap
     ((1 : Int) +
     nextR l
     (nextN l
     (0 : Int))
     (4 : Int)))
     l_1).length)).toNat
     default).5
     (List.take
     (nextR l
     (nextN l
     (nextN l
     (nextN l
     (nextN l (0 : Int)))))
     (IntKind.i64.wrap
     (@Nat.cast Int _
     ((splitL
     (IntKind.u32.wrap
     (IntKind.i64.wrap
     ((1 : Int) +
     nextR l
     (0 :
     Int)
     (2 :
     Int))))
     (IntKind.i64.wrap
     ((1 : Int) +
     nextR l
     (nextN l
     (0 :
     Int))
     (4 :
     Int)))
     l_1).getD
     (nextR l
     (nextN l
     (nextN l
     (0 : Int)))
     (@Nat.cast Int _
     (splitL
     (IntKind.u32.wrap
     (IntKind.i64.wrap
     ((1 :
     Int) +
     nextR
     l
     (0 :
     Int)
     (2 :
     Int))))
     (IntKind.i64.wrap
     ((1 :
     Int) +
     nextR
     l
     (nextN
     l
     (0 :
     Int))
     (4 :
     Int)))
     l_1).length)).toNat
     default).6.length +
     (1 : Int)))).toNat
     ((splitL
     (IntKind.u32.wrap
     (IntKind.i64.wrap
     ((1 : Int) +
     nextR l (0 : Int)
     (2 : Int))))
     (IntKind.i64.wrap
     ((1 : Int) +
     nextR l
     (nextN l (0 : Int))
     (4 : Int)))
     l_1).getD
     (nextR l
     (nextN l
     (nextN l (0 : Int)))
     (@Nat.cast Int _
     (splitL
     (IntKind.u32.wrap
     (IntKind.i64.wrap
     ((1 : Int) +
     nextR l
     (0 : Int)
     (2 : Int))))
     (IntKind.i64.wrap
     ((1 : Int) +
     nextR l
     (nextN l
     (0 : Int))
     (4 : Int)))
     l_1).length)).toNat
     default).6)))).2)
     (post (AV.bool false) none)
     (post (AV.bool true) none)))))))))))))))))))))
     (br (nextR l (nextN l (nextN l (nextN l (0 : Int)))) (7 : Int) == (4 : Int))
     (chk
     (cutB
     (splitL
     (IntKind.u32.wrap
     (IntKind.i64.wrap ((1 : Int) + nextR l (0 : Int) (2 : Int))))
     (IntKind.i64.wrap ((1 : Int) + nextR l (nextN l (0 : Int)) (4 : Int)))
     l_1).length
     none
     (some
     (nextR l (nextN l (nextN l (0 : Int)))
     (@Nat.cast Int _
     (splitL
     (IntKind.u32.wrap
     (IntKind.i64.wrap ((1 : Int) + nextR l (0 : Int) (2 : Int))))
     (IntKind.i64.wrap ((1 : Int) + nextR l (nextN l (0 : Int)) (4 : Int)))
     l_1).length))))
     (chk
     (cutB
     (splitL
     (IntKind.u32.wrap
     (IntKind.i64.wrap ((1 : Int) + nextR l (0 : Int) (2 : Int))))
     (IntKind.i64.wrap ((1 : Int) + nextR l (nextN l (0 : Int)) (4 : Int)))
     l_1).length
     (some
     (IntKind.i64.wrap
     (nextR l (nextN l (nextN l (0 : Int)))
     (@Nat.cast Int _
     (splitL
     (IntKind.u32.wrap
     (IntKind.i64.wrap ((1 : Int) + nextR l (0 : Int) (2 : Int))))
     (IntKind.i64.wrap
     ((1 : Int) + nextR l (nextN l (0 : Int)) (4 : Int)))
     l_1).length) +
     (1 : Int))))
     none)
     (chk
     (decide
     ((List.take
     (nextR l (nextN l (nextN l (0 : Int)))
     (@Nat.cast Int _
     (splitL
     (IntKind.u32.wrap
     (IntKind.i64.wrap
     ((1 : Int) + nextR l (0 : Int) (2 : Int))))
     (IntKind.i64.wrap
     ((1 : Int) + nextR l (nextN l (0 : Int)) (4 : Int)))
     l_1).length)).toNat
     (List.drop (0 : Nat)
     (splitL
     (IntKind.u32.wrap
     (IntKind.i64.wrap ((1 : Int) + nextR l (0 : Int) (2 : Int))))
     (IntKind.i64.wrap
     ((1 : Int) + nextR l (nextN l (0 : Int)) (4 : Int)))
     l_1))).length ≤
     (1099511627776 : Nat)))
     (chk
     (decide
     ((List.take
     (nextR l (nextN l (nextN l (0 : Int)))
     (@Nat.cast Int _
     (splitL
     (IntKind.u32.wrap
     (IntKind.i64.wrap
     ((1 : Int) + nextR l (0 : Int) (2 : Int))))
     (IntKind.i64.wrap
     ((1 : Int) + nextR l (nextN l (0 : Int)) (4 : Int)))
     l_1).length)).toNat
     (List.drop (0 : Nat)
     (splitL
     (IntKind.u32.wrap
     (IntKind.i64.wrap ((1 : Int) + nextR l (0 : Int) (2 : Int))))
     (IntKind.i64.wrap
     ((1 : Int) + nextR l (nextN l (0 : Int)) (4 : Int)))
     l_1))).length +
     (List.take
     ((splitL
     (IntKind.u32.wrap
     (IntKind.i64.wrap
     ((1 : Int) + nextR l (0 : Int) (2 : Int))))
     (IntKind.i64.wrap
     ((1 : Int) + nextR l (nextN l (0 : Int)) (4 : Int)))
     l_1).length -
     (IntKind.i64.wrap
     (nextR l (nextN l (nextN l (0 : Int)))
     (@Nat.cast Int _
     (splitL
     (IntKind.u32.wrap
     (IntKind.i64.wrap
     ((1 : Int) + nextR l (0 : Int) (2 : Int))))
     (IntKind.i64.wrap
     ((1 : Int) +
     nextR l (nextN l (0 : Int)) (4 : Int)))
     l_1).length) +
     (1 : Int))).toNat)
     (List.drop
     ((0 : Nat) +
     (IntKind.i64.wrap
     (nextR l (nextN l (nextN l (0 : Int)))
     (@Nat.cast Int _
     (splitL
     (IntKind.u32.wrap
     (IntKind.i64.wrap
     ((1 : Int) + nextR l (0 : Int) (2 : Int))))
     (IntKind.i64.wrap
     ((1 : Int) +
     nextR l (nextN l (0 : Int)) (4 : Int)))
     l_1).length) +
     (1 : Int))).toNat)
     (splitL
     (IntKind.u32.wrap
     (IntKind.i64.wrap ((1 : Int) + nextR l (0 : Int) (2 : Int))))
     (IntKind.i64.wrap
     ((1 : Int) + nextR l (nextN l (0 : Int)) (4 : Int)))
     l_1))).length ≤
     (1099511627776 : Nat)))
     (br (joinC ps != joinC ps) (post (AV.bool false) none)
     (br (!strEq (joinR ps).1 (joinR ps).1) (post (AV.bool false) none)
     (br (joinU ps != joinU ps) (post (AV.bool false) none)
     (br ((joinR ps).2 != (joinR ps).2) (post (AV.bool false) none)
     (br
     (joinC
     (splitL
     (IntKind.u32.wrap
     (IntKind.i64.wrap
     ((1 : Int) + nextR l (0 : Int) (2 : Int))))
     (IntKind.i64.wrap
     ((1 : Int) + nextR l (nextN l (0 : Int)) (4 : Int)))
     l_1) !=
     joinC
     (splitL
     (IntKind.u32.wrap
     (IntKind.i64.wrap
     ((1 : Int) + nextR l (0 : Int) (2 : Int))))
     (IntKind.i64.wrap
     ((1 : Int) + nextR l (nextN l (0 : Int)) (4 : Int)))
     l_1))
     (post (AV.bool false) none)
     (br
     (!strEq
     (joinR
     (splitL
     (IntKind.u32.wrap
     (IntKind.i64.wrap
     ((1 : Int) + nextR l (0 : Int) (2 : Int))))
     (IntKind.i64.wrap
     ((1 : Int) + nextR l (nextN l (0 : Int)) (4 : Int)))
     l_1)).1
     (joinR
     (splitL
     (IntKind.u32.wrap
     (IntKind.i64.wrap
     ((1 : Int) + nextR l (0 : Int) (2 : Int))))
     (IntKind.i64.wrap
     ((1 : Int) + nextR l (nextN l (0 : Int)) (4 : Int)))
     l_1)).1)
     (post (AV.bool false) none)
     (br
     (joinU
     (splitL
     (IntKind.u32.wrap
     (IntKind.i64.wrap
     ((1 : Int) + nextR l (0 : Int) (2 : Int))))
     (IntKind.i64.wrap
     ((1 : Int) + nextR l (nextN l (0 : Int)) (4 : Int)))
     l_1) !=
     joinU
     (splitL
     (IntKind.u32.wrap
     (IntKind.i64.wrap
     ((1 : Int) + nextR l (0 : Int) (2 : Int))))
     (IntKind.i64.wrap
     ((1 : Int) + nextR l (nextN l (0 : Int)) (4 : Int)))
     l_1))
     (post (AV.bool false) none)
     (br
     ((joinR
     (splitL
     (IntKind.u32.wrap
     (IntKind.i64.wrap
     ((1 : Int) + nextR l (0 : Int) (2 : Int))))
     (IntKind.i64.wrap
     ((1 : Int) + nextR l (nextN l (0 : Int)) (4 : Int)))
     l_1)).2 !=
     (joinR
     (splitL
     (IntKind.u32.wrap
     (IntKind.i64.wrap
     ((1 : Int) + nextR l (0 : Int) (2 : Int))))
     (IntKind.i64.wrap
     ((1 : Int) + nextR l (nextN l (0 : Int)) (4 : Int)))
     l_1)).2)
     (post (AV.bool false) none)
     (br
     (joinC
     (List.take
     (nextR l (nextN l (nextN l (0 : Int)))
     (@Nat.cast Int _
     (splitL
     (IntKind.u32.wrap
     (IntKind.i64.wrap
     ((1 : Int) +
     nextR l (0 : Int) (2 : Int))))
     (IntKind.i64.wrap
     ((1 : Int) +
     nextR l (nextN l (0 : Int))
     (4 : Int)))
     l_1).length)).toNat
     (List.drop (0 : Nat)
     (splitL
     (IntKind.u32.wrap
     (IntKind.i64.wrap
     ((1 : Int) + nextR l (0 : Int) (2 : Int))))
     (IntKind.i64.wrap
     ((1 : Int) +
     nextR l (nextN l (0 : Int)) (4 : Int)))
     l_1)) ++
     List.take
     ((splitL
     (IntKind.u32.wrap
     (IntKind.i64.wrap
     ((1 : Int) +
     nextR l (0 : Int) (2 : Int))))
     (IntKind.i64.wrap
     ((1 : Int) +
     nextR l (nextN l (0 : Int)) (4 : Int)))
     l_1).length -
     (IntKind.i64.wrap
     (nextR l (nextN l (nextN l (0 : Int)))
     (@Nat.cast Int _
     (splitL
     (IntKind.u32.wrap
     (IntKind.i64.wrap
     ((1 : Int) +
     nextR l (0 : Int) (2 : Int))))
     (IntKind.i64.wrap
     ((1 : Int) +
     nextR l (nextN l (0 : Int))
     (4 : Int)))
     l_1).length) +
     (1 : Int))).toNat)
     (List.drop
     ((0 : Nat) +
     (IntKind.i64.wrap
     (nextR l (nextN l (nextN l (0 : Int)))
     (@Nat.cast Int _
     (splitL
     (IntKind.u32.wrap
     (IntKind.i64.wrap
     ((1 : Int) +
     nextR l (0 : Int)
     (2 : Int))))
     (IntKind.i64.wrap
     ((1 : Int) +
     nextR l (nextN l (0 : Int))
     (4 : Int)))
     l_1).length) +
     (1 : Int))).toNat)
     (splitL
     (IntKind.u32.wrap
     (IntKind.i64.wrap
     ((1 : Int) + nextR l (0 : Int) (2 : Int))))
     (IntKind.i64.wrap
     ((1 : Int) +
     nextR l (nextN l (0 : Int)) (4 : Int)))
     l_1))) !=
     joinC
     (List.take
     (nextR l (nextN l (nextN l (0 : Int)))
     (@Nat.cast Int _
     (splitL
     (IntKind.u32.wrap
     (IntKind.i64.wrap
     ((1 : Int) +
     nextR l (0 : Int) (2 : Int))))
     (IntKind.i64.wrap
     ((1 : Int) +
     nextR l (nextN l (0 : Int))
     (4 : Int)))
     l_1).length)).toNat
     (List.drop (0 : Nat)
     (splitL
     (IntKind.u32.wrap
     (IntKind.i64.wrap
     ((1 : Int) + nextR l (0 : Int) (2 : Int))))
     (IntKind.i64.wrap
     ((1 : Int) +
     nextR l (nextN l (0 : Int)) (4 : Int)))
     l_1)) ++
     List.take
     ((splitL
     (IntKind.u32.wrap
     (IntKind.i64.wrap
     ((1 : Int) +
     nextR l (0 : Int) (2 : Int))))
     (IntKind.i64.wrap
     ((1 : Int) +
     nextR l (nextN l (0 : Int)) (4 : Int)))
     l_1).length -
     (IntKind.i64.wrap
     (nextR l (nextN l (nextN l (0 : Int)))
     (@Nat.cast Int _
     (splitL
     (IntKind.u32.wrap
     (IntKind.i64.wrap
     ((1 : Int) +
     nextR l (0 : Int) (2 : Int))))
     (IntKind.i64.wrap
     ((1 : Int) +
     nextR l (nextN l (0 : Int))
     (4 : Int)))
     l_1).length) +
     (1 : Int))).toNat)
     (List.drop
     ((0 : Nat) +
     (IntKind.i64.wrap
     (nextR l (nextN l (nextN l (0 : Int)))
     (@Nat.cast Int _
     (splitL
     (IntKind.u32.wrap
     (IntKind.i64.wrap
     ((1 : Int) +
     nextR l (0 : Int)
     (2 : Int))))
     (IntKind.i64.wrap
     ((1 : Int) +
     nextR l (nextN l (0 : Int))
     (4 : Int)))
     l_1).length) +
     (1 : Int))).toNat)
     (splitL
     (IntKind.u32.wrap
     (IntKind.i64.wrap
     ((1 : Int) + nextR l (0 : Int) (2 : Int))))
     (IntKind.i64.wrap
     ((1 : Int) +
     nextR l (nextN l (0 : Int)) (4 : Int)))
     l_1))))
     (post (AV.bool false) none)
     (br
     (!strEq
     (joinR
     (List.take
     (nextR l (nextN l (nextN l (0 : Int)))
     (@Nat.cast Int _
     (splitL
     (IntKind.u32.wrap
     (IntKind.i64.wrap
     ((1 : Int) +
     nextR l (0 : Int) (2 : Int))))
     (IntKind.i64.wrap
     ((1 : Int) +
     nextR l (nextN l (0 : Int))
     (4 : Int)))
     l_1).length)).toNat
     (List.drop (0 : Nat)
     (splitL
     (IntKind.u32.wrap
     (IntKind.i64.wrap
     ((1 : Int) +
     nextR l (0 : Int) (2 : Int))))
     (IntKind.i64.wrap
     ((1 : Int) +
     nextR l (nextN l (0 : Int))
     (4 : Int)))
     l_1)) ++
     List.take
     ((splitL
     (IntKind.u32.wrap
     (IntKind.i64.wrap
     ((1 : Int) +
     nextR l (0 : Int) (2 : Int))))
     (IntKind.i64.wrap
     ((1 : Int) +
     nextR l (nextN l (0 : Int))
     (4 : Int)))
     l_1).length -
     (IntKind.i64.wrap
     (nextR l (nextN l (nextN l (0 : Int)))
     (@Nat.cast Int _
     (splitL
     (IntKind.u32.wrap
     (IntKind.i64.wrap
     ((1 : Int) +
     nextR l (0 : Int)
     (2 : Int))))
     (IntKind.i64.wrap
     ((1 : Int) +
     nextR l
     (nextN l (0 : Int))
     (4 : Int)))
     l_1).length) +
     (1 : Int))).toNat)
     (List.drop
     ((0 : Nat) +
     (IntKind.i64.wrap
     (nextR l (nextN l (nextN l (0 : Int)))
     (@Nat.cast Int _
     (splitL
     (IntKind.u32.wrap
     (IntKind.i64.wrap
     ((1 : Int) +
     nextR l (0 : Int)
     (2 : Int))))
     (IntKind.i64.wrap
     ((1 : Int) +
     nextR l
     (nextN l (0 : Int))
     (4 : Int)))
     l_1).length) +
     (1 : Int))).toNat)
     (splitL
     (IntKind.u32.wrap
     (IntKind.i64.wrap
     ((1 : Int) +
     nextR l (0 : Int) (2 : Int))))
     (IntKind.i64.wrap
     ((1 : Int) +
     nextR l (nextN l (0 : Int))
     (4 : Int)))
     l_1)))).1
     (joinR
     (List.take
     (nextR l (nextN l (nextN l (0 : Int)))
     (@Nat.cast Int _
     (splitL
     (IntKind.u32.wrap
     (IntKind.i64.wrap
     ((1 : Int) +
     nextR l (0 : Int) (2 : Int))))
     (IntKind.i64.wrap
     ((1 : Int) +
     nextR l (nextN l (0 : Int))
     (4 : Int)))
     l_1).length)).toNat
     (List.drop (0 : Nat)
     (splitL
     (IntKind.u32.wrap
     (IntKind.i64.wrap
     ((1 : Int) +
     nextR l (0 : Int) (2 : Int))))
     (IntKind.i64.wrap
     ((1 : Int) +
     nextR l (nextN l (0 : Int))
     (4 : Int)))
     l_1)) ++
     List.take
     ((splitL
     (IntKind.u32.wrap
     (IntKind.i64.wrap
     ((1 : Int) +
     nextR l (0 : Int) (2 : Int))))
     (IntKind.i64.wrap
     ((1 : Int) +
     nextR l (nextN l (0 : Int))
     (4 : Int)))
     l_1).length -
     (IntKind.i64.wrap
     (nextR l (nextN l (nextN l (0 : Int)))
     (@Nat.cast Int _
     (splitL
     (IntKind.u32.wrap
     (IntKind.i64.wrap
     ((1 : Int) +
     nextR l (0 : Int)
     (2 : Int))))
     (IntKind.i64.wrap
     ((1 : Int) +
     nextR l
     (nextN l (0 : Int))
     (4 : Int)))
     l_1).length) +
     (1 : Int))).toNat)
     (List.drop
     ((0 : Nat) +
     (IntKind.i64.wrap
     (nextR l (nextN l (nextN l (0 : Int)))
     (@Nat.cast Int _
     (splitL
     (IntKind.u32.wrap
     (IntKind.i64.wrap
     ((1 : Int) +
     nextR l (0 : Int)
     (2 : Int))))
     (IntKind.i64.wrap
     ((1 : Int) +
     nextR l
     (nextN l (0 : Int))
     (4 : Int)))
     l_1).length) +
     (1 : Int))).toNat)
     (splitL
     (IntKind.u32.wrap
     (IntKind.i64.wrap
     ((1 : Int) +
     nextR l (0 : Int) (2 : Int))))
     (IntKind.i64.wrap
     ((1 : Int) +
     nextR l (nextN l (0 : Int))
     (4 : Int)))
     l_1)))).1)
     (post (AV.bool false) none)
     (br
     (joinU
     (List.take
     (nextR l (nextN l (nextN l (0 : Int)))
     (@Nat.cast Int _
     (splitL
     (IntKind.u32.wrap
     (IntKind.i64.wrap
     ((1 : Int) +
     nextR l (0 : Int) (2 : Int))))
     (IntKind.i64.wrap
     ((1 : Int) +
     nextR l (nextN l (0 : Int))
     (4 : Int)))
     l_1).length)).toNat
     (List.drop (0 : Nat)
     (splitL
     (IntKind.u32.wrap
     (IntKind.i64.wrap
     ((1 : Int) +
     nextR l (0 : Int) (2 : Int))))
     (IntKind.i64.wrap
     ((1 : Int) +
     nextR l (nextN l (0 : Int)) (4 : Int)))
     l_1)) ++
     List.take
     ((splitL
     (IntKind.u32.wrap
     (IntKind.i64.wrap
     ((1 : Int) +
     nextR l (0 : Int) (2 : Int))))
     (IntKind.i64.wrap
     ((1 : Int) +
     nextR l (nextN l (0 : Int))
     (4 : Int)))
     l_1).length -
     (IntKind.i64.wrap
     (nextR l (nextN l (nextN l (0 : Int)))
     (@Nat.cast Int _
     (splitL
     (IntKind.u32.wrap
     (IntKind.i64.wrap
     ((1 : Int) +
     nextR l (0 : Int)
     (2 : Int))))
     (IntKind.i64.wrap
     ((1 : Int) +
     nextR l (nextN l (0 : Int))
     (4 : Int)))
     l_1).length) +
     (1 : Int))).toNat)
     (List.drop
     ((0 : Nat) +
     (IntKind.i64.wrap
     (nextR l (nextN l (nextN l (0 : Int)))
     (@Nat.cast Int _
     (splitL
     (IntKind.u32.wrap
     (IntKind.i64.wrap
     ((1 : Int) +
     nextR l (0 : Int)
     (2 : Int))))
     (IntKind.i64.wrap
     ((1 : Int) +
     nextR l
     (nextN l (0 : Int))
     (4 : Int)))
     l_1).length) +
     (1 : Int))).toNat)
     (splitL
     (IntKind.u32.wrap
     (IntKind.i64.wrap
     ((1 : Int) +
     nextR l (0 : Int) (2 : Int))))
     (IntKind.i64.wrap
     ((1 : Int) +
     nextR l (nextN l (0 : Int)) (4 : Int)))
     l_1))) !=
     joinU
     (List.take
     (nextR l (nextN l (nextN l (0 : Int)))
     (@Nat.cast Int _
     (splitL
     (IntKind.u32.wrap
     (IntKind.i64.wrap
     ((1 : Int) +
     nextR l (0 : Int) (2 : Int))))
     (IntKind.i64.wrap
     ((1 : Int) +
     nextR l (nextN l (0 : Int))
     (4 : Int)))
     l_1).length)).toNat
     (List.drop (0 : Nat)
     (splitL
     (IntKind.u32.wrap
     (IntKind.i64.wrap
     ((1 : Int) +
     nextR l (0 : Int) (2 : Int))))
     (IntKind.i64.wrap
     ((1 : Int) +
     nextR l (nextN l (0 : Int)) (4 : Int)))
     l_1)) ++
     List.take
     ((splitL
     (IntKind.u32.wrap
     (IntKind.i64.wrap
     ((1 : Int) +
     nextR l (0 : Int) (2 : Int))))
     (IntKind.i64.wrap
     ((1 : Int) +
     nextR l (nextN l (0 : Int))
     (4 : Int)))
     l_1).length -
     (IntKind.i64.wrap
     (nextR l (nextN l (nextN l (0 : Int)))
     (@Nat.cast Int _
     (splitL
     (IntKind.u32.wrap
     (IntKind.i64.wrap
     ((1 : Int) +
     nextR l (0 : Int)
     (2 : Int))))
     (IntKind.i64.wrap
     ((1 : Int) +
     nextR l (nextN l (0 : Int))
     (4 : Int)))
     l_1).length) +
     (1 : Int))).toNat)
     (List.drop
     ((0 : Nat) +
     (IntKind.i64.wrap
     (nextR l (nextN l (nextN l (0 : Int)))
     (@Nat.cast Int _
     (splitL
     (IntKind.u32.wrap
     (IntKind.i64.wrap
     ((1 : Int) +
     nextR l (0 : Int)
     (2 : Int))))
     (IntKind.i64.wrap
     ((1 : Int) +
     nextR l
     (nextN l (0 : Int))
     (4 : Int)))
     l_1).length) +
     (1 : Int))).toNat)
     (splitL
     (IntKind.u32.wrap
     (IntKind.i64.wrap
     ((1 : Int) +
     nextR l (0 : Int) (2 : Int))))
     (IntKind.i64.wrap
     ((1 : Int) +
     nextR l (nextN l (0 : Int)) (4 : Int)))
     l_1))))
     (post (AV.bool false) none)
     (br
     ((joinR
     (List.take
     (nextR l (nextN l (nextN l (0 : Int)))
     (@Nat.cast Int _
     (splitL
     (IntKind.u32.wrap
     (IntKind.i64.wrap
     ((1 : Int) +
     nextR l (0 : Int)
     (2 : Int))))
     (IntKind.i64.wrap
     ((1 : Int) +
     nextR l (nextN l (0 : Int))
     (4 : Int)))
     l_1).length)).toNat
     (List.drop (0 : Nat)
     (splitL
     (IntKind.u32.wrap
     (IntKind.i64.wrap
     ((1 : Int) +
     nextR l (0 : Int) (2 : Int))))
     (IntKind.i64.wrap
     ((1 : Int) +
     nextR l (nextN l (0 : Int))
     (4 : Int)))
     l_1)) ++
     List.take
     ((splitL
     (IntKind.u32.wrap
     (IntKind.i64.wrap
     ((1 : Int) +
     nextR l (0 : Int) (2 : Int))))
     (IntKind.i64.wrap
     ((1 : Int) +
     nextR l (nextN l (0 : Int))
     (4 : Int)))
     l_1).length -
     (IntKind.i64.wrap
     (nextR l (nextN l (nextN l (0 : Int)))
     (@Nat.cast Int _
     (splitL
     (IntKind.u32.wrap
     (IntKind.i64.wrap
     ((1 : Int) +
     nextR l (0 : Int)
     (2 : Int))))
     (IntKind.i64.wrap
     ((1 : Int) +
     nextR l
     (nextN l (0 : Int))
     (4 : Int)))
     l_1).length) +
     (1 : Int))).toNat)
     (List.drop
     ((0 : Nat) +
     (IntKind.i64.wrap
     (nextR l
     (nextN l (nextN l (0 : Int)))
     (@Nat.cast Int _
     (splitL
     (IntKind.u32.wrap
     (IntKind.i64.wrap
     ((1 : Int) +
     nextR l (0 : Int)
     (2 : Int))))
     (IntKind.i64.wrap
     ((1 : Int) +
     nextR l
     (nextN l (0 : Int))
     (4 : Int)))
     l_1).length) +
     (1 : Int))).toNat)
     (splitL
     (IntKind.u32.wrap
     (IntKind.i64.wrap
     ((1 : Int) +
     nextR l (0 : Int) (2 : Int))))
     (IntKind.i64.wrap
     ((1 : Int) +
     nextR l (nextN l (0 : Int))
     (4 : Int)))
     l_1)))).2 !=
     (joinR
     (List.take
     (nextR l (nextN l (nextN l (0 : Int)))
     (@Nat.cast Int _
     (splitL
     (IntKind.u32.wrap
     (IntKind.i64.wrap
     ((1 : Int) +
     nextR l (0 : Int)
     (2 : Int))))
     (IntKind.i64.wrap
     ((1 : Int) +
     nextR l (nextN l (0 : Int))
     (4 : Int)))
     l_1).length)).toNat
     (List.drop (0 : Nat)
     (splitL
     (IntKind.u32.wrap
     (IntKind.i64.wrap
     ((1 : Int) +
     nextR l (0 : Int) (2 : Int))))
     (IntKind.i64.wrap
     ((1 : Int) +
     nextR l (nextN l (0 : Int))
     (4 : Int)))
     l_1)) ++
     List.take
     ((splitL
     (IntKind.u32.wrap
     (IntKind.i64.wrap
     ((1 : Int) +
     nextR l (0 : Int) (2 : Int))))
     (IntKind.i64.wrap
     ((1 : Int) +
     nextR l (nextN l (0 : Int))
     (4 : Int)))
     l_1).length -
     (IntKind.i64.wrap
     (nextR l (nextN l (nextN l (0 : Int)))
     (@Nat.cast Int _
     (splitL
     (IntKind.u32.wrap
     (IntKind.i64.wrap
     ((1 : Int) +
     nextR l (0 : Int)
     (2 : Int))))
     (IntKind.i64.wrap
     ((1 : Int) +
     nextR l
     (nextN l (0 : Int))
     (4 : Int)))
     l_1).length) +
     (1 : Int))).toNat)
     (List.drop
     ((0 : Nat) +
     (IntKind.i64.wrap
     (nextR l
     (nextN l (nextN l (0 : Int)))
     (@Nat.cast Int _
     (splitL
     (IntKind.u32.wrap
     (IntKind.i64.wrap
     ((1 : Int) +
     nextR l (0 : Int)
     (2 : Int))))
     (IntKind.i64.wrap
     ((1 : Int) +
     nextR l
     (nextN l (0 : Int))
     (4 : Int)))
     l_1).length) +
     (1 : Int))).toNat)
     (splitL
     (IntKind.u32.wrap
     (IntKind.i64.wrap
     ((1 : Int) +
     nextR l (0 : Int) (2 : Int))))
     (IntKind.i64.wrap
     ((1 : Int) +
     nextR l (nextN l (0 : Int))
     (4 : Int)))
     l_1)))).2)
     (post (AV.bool false) none)
     (post (AV.bool true) none)))))))))))))))))
     (br (nextR l (nextN l (nextN l (nextN l (0 : Int)))) (7 : Int) == (5 : Int))
     (chk
     (cutB
     (splitL
     (IntKind.u32.wrap
     (IntKind.i64.wrap ((1 : Int) + nextR l (0 : Int) (2 : Int))))
     (IntKind.i64.wrap ((1 : Int) + nextR l (nextN l (0 : Int)) (4 : Int)))
     l_1).length
     none
     (some
     (IntKind.i64.wrap
     (nextR l (nextN l (nextN l (0 : Int)))
     (@Nat.cast Int _
     (splitL
     (IntKind.u32.wrap
     (IntKind.i64.wrap ((1 : Int) + nextR l (0 : Int) (2 : Int))))
     (IntKind.i64.wrap
     ((1 : Int) + nextR l (nextN l (0 : Int)) (4 : Int)))
     l_1).length) +
     (1 : Int)))))
     (chk
     (cutB
     (splitL
     (IntKind.u32.wrap
     (IntKind.i64.wrap ((1 : Int) + nextR l (0 : Int) (2 : Int))))
     (IntKind.i64.wrap ((1 : Int) + nextR l (nextN l (0 : Int)) (4 : Int)))
     l_1).length
     (some
     (nextR l (nextN l (nextN l (0 : Int)))
     (@Nat.cast Int _
     (splitL
     (IntKind.u32.wrap
     (IntKind.i64.wrap ((1 : Int) + nextR l (0 : Int) (2 : Int))))
     (IntKind.i64.wrap
     ((1 : Int) + nextR l (nextN l (0 : Int)) (4 : Int)))
     l_1).length)))
     none)
     (chk
     (decide
     ((List.take
     (IntKind.i64.wrap
     (nextR l (nextN l (nextN l (0 : Int)))
     (@Nat.cast Int _
     (splitL
     (IntKind.u32.wrap
     (IntKind.i64.wrap
     ((1 : Int) + nextR l (0 : Int) (2 : Int))))
     (IntKind.i64.wrap
     ((1 : Int) + nextR l (nextN l (0 : Int)) (4 : Int)))
     l_1).length) +
     (1 : Int))).toNat
     (List.drop (0 : Nat)
     (splitL
     (IntKind.u32.wrap
     (IntKind.i64.wrap ((1 : Int) + nextR l (0 : Int) (2 : Int))))
     (IntKind.i64.wrap
     ((1 : Int) + nextR l (nextN l (0 : Int)) (4 : Int)))
     l_1))).length ≤
     (1099511627776 : Nat)))
     (chk
     (decide
     ((List.take
     (IntKind.i64.wrap
     (nextR l (nextN l (nextN l (0 : Int)))
     (@Nat.cast Int _
     (splitL
     (IntKind.u32.wrap
     (IntKind.i64.wrap
     ((1 : Int) + nextR l (0 : Int) (2 : Int))))
     (IntKind.i64.wrap
     ((1 : Int) +
     nextR l (nextN l (0 : Int)) (4 : Int)))
     l_1).length) +
     (1 : Int))).toNat
     (List.drop (0 : Nat)
     (splitL
     (IntKind.u32.wrap
     (IntKind.i64.wrap
     ((1 : Int) + nextR l (0 : Int) (2 : Int))))
     (IntKind.i64.wrap
     ((1 : Int) + nextR l (nextN l (0 : Int)) (4 : Int)))
     l_1))).length +
     (List.take
     ((splitL
     (IntKind.u32.wrap
     (IntKind.i64.wrap
     ((1 : Int) + nextR l (0 : Int) (2 : Int))))
     (IntKind.i64.wrap
     ((1 : Int) + nextR l (nextN l (0 : Int)) (4 : Int)))
     l_1).length -
     (nextR l (nextN l (nextN l (0 : Int)))
     (@Nat.cast Int _
     (splitL
     (IntKind.u32.wrap
     (IntKind.i64.wrap
     ((1 : Int) + nextR l (0 : Int) (2 : Int))))
     (IntKind.i64.wrap
     ((1 : Int) + nextR l (nextN l (0 : Int)) (4 : Int)))
     l_1).length)).toNat)
     (List.drop
     ((0 : Nat) +
     (nextR l (nextN l (nextN l (0 : Int)))
     (@Nat.cast Int _
     (splitL
     (IntKind.u32.wrap
     (IntKind.i64.wrap
     ((1 : Int) + nextR l (0 : Int) (2 : Int))))
     (IntKind.i64.wrap
     ((1 : Int) +
     nextR l (nextN l (0 : Int)) (4 : Int)))
     l_1).length)).toNat)
     (splitL
     (IntKind.u32.wrap
     (IntKind.i64.wrap
     ((1 : Int) + nextR l (0 : Int) (2 : Int))))
     (IntKind.i64.wrap
     ((1 : Int) + nextR l (nextN l (0 : Int)) (4 : Int)))
     l_1))).length ≤
     (1099511627776 : Nat)))
     (br (joinC ps != joinC ps) (post (AV.bool false) none)
     (br (!strEq (joinR ps).1 (joinR ps).1) (post (AV.bool false) none)
     (br (joinU ps != joinU ps) (post (AV.bool false) none)
     (br ((joinR ps).2 != (joinR ps).2) (post (AV.bool false) none)
     (br
     (joinC
     (splitL
     (IntKind.u32.wrap
     (IntKind.i64.wrap
     ((1 : Int) + nextR l (0 : Int) (2 : Int))))
     (IntKind.i64.wrap
     ((1 : Int) + nextR l (nextN l (0 : Int)) (4 : Int)))
     l_1) !=
     joinC
     (splitL
     (IntKind.u32.wrap
     (IntKind.i64.wrap
     ((1 : Int) + nextR l (0 : Int) (2 : Int))))
     (IntKind.i64.wrap
     ((1 : Int) + nextR l (nextN l (0 : Int)) (4 : Int)))
     l_1))
     (post (AV.bool false) none)
     (br
     (!strEq
     (joinR
     (splitL
     (IntKind.u32.wrap
     (IntKind.i64.wrap
     ((1 : Int) + nextR l (0 : Int) (2 : Int))))
     (IntKind.i64.wrap
     ((1 : Int) + nextR l (nextN l (0 : Int)) (4 : Int)))
     l_1)).1
     (joinR
     (splitL
     (IntKind.u32.wrap
     (IntKind.i64.wrap
     ((1 : Int) + nextR l (0 : Int) (2 : Int))))
     (IntKind.i64.wrap
     ((1 : Int) + nextR l (nextN l (0 : Int)) (4 : Int)))
     l_1)).1)
     (post (AV.bool false) none)
     (br
     (joinU
     (splitL
     (IntKind.u32.wrap
     (IntKind.i64.wrap
     ((1 : Int) + nextR l (0 : Int) (2 : Int))))
     (IntKind.i64.wrap
     ((1 : Int) + nextR l (nextN l (0 : Int)) (4 : Int)))
     l_1) !=
     joinU
     (splitL
     (IntKind.u32.wrap
     (IntKind.i64.wrap
     ((1 : Int) + nextR l (0 : Int) (2 : Int))))
     (IntKind.i64.wrap
     ((1 : Int) + nextR l (nextN l (0 : Int)) (4 : Int)))
     l_1))
     (post (AV.bool false) none)
     (br
     ((joinR
     (splitL
     (IntKind.u32.wrap
     (IntKind.i64.wrap
     ((1 : Int) + nextR l (0 : Int) (2 : Int))))
     (IntKind.i64.wrap
     ((1 : Int) +
     nextR l (nextN l (0 : Int)) (4 : Int)))
     l_1)).2 !=
     (joinR
     (splitL
     (IntKind.u32.wrap
     (IntKind.i64.wrap
     ((1 : Int) + nextR l (0 : Int) (2 : Int))))
     (IntKind.i64.wrap
     ((1 : Int) +
     nextR l (nextN l (0 : Int)) (4 : Int)))
     l_1)).2)
     (post (AV.bool false) none)
     (br
     (joinC
     (List.take
     (IntKind.i64.wrap
     (nextR l (nextN l (nextN l (0 : Int)))
     (@Nat.cast Int _
     (splitL
     (IntKind.u32.wrap
     (IntKind.i64.wrap
     ((1 : Int) +
     nextR l (0 : Int) (2 : Int))))
     (IntKind.i64.wrap
     ((1 : Int) +
     nextR l (nextN l (0 : Int))
     (4 : Int)))
     l_1).length) +
     (1 : Int))).toNat
     (List.drop (0 : Nat)
     (splitL
     (IntKind.u32.wrap
     (IntKind.i64.wrap
     ((1 : Int) +
     nextR l (0 : Int) (2 : Int))))
     (IntKind.i64.wrap
     ((1 : Int) +
     nextR l (nextN l (0 : Int)) (4 : Int)))
     l_1)) ++
     List.take
     ((splitL
     (IntKind.u32.wrap
     (IntKind.i64.wrap
     ((1 : Int) +
     nextR l (0 : Int) (2 : Int))))
     (IntKind.i64.wrap
     ((1 : Int) +
     nextR l (nextN l (0 : Int)) (4 : Int)))
     l_1).length -
     (nextR l (nextN l (nextN l (0 : Int)))
     (@Nat.cast Int _
     (splitL
     (IntKind.u32.wrap
     (IntKind.i64.wrap
     ((1 : Int) +
     nextR l (0 : Int) (2 : Int))))
     (IntKind.i64.wrap
     ((1 : Int) +
     nextR l (nextN l (0 : Int))
     (4 : Int)))
     l_1).length)).toNat)
     (List.drop
     ((0 : Nat) +
     (nextR l (nextN l (nextN l (0 : Int)))
     (@Nat.cast Int _
     (splitL
     (IntKind.u32.wrap
     (IntKind.i64.wrap
     ((1 : Int) +
     nextR l (0 : Int) (2 : Int))))
     (IntKind.i64.wrap
     ((1 : Int) +
     nextR l (nextN l (0 : Int))
     (4 : Int)))
     l_1).length)).toNat)
     (splitL
     (IntKind.u32.wrap
     (IntKind.i64.wrap
     ((1 : Int) +
     nextR l (0 : Int) (2 : Int))))
     (IntKind.i64.wrap
     ((1 : Int) +
     nextR l (nextN l (0 : Int)) (4 : Int)))
     l_1))) !=
     joinC
     (List.take
     (IntKind.i64.wrap
     (nextR l (nextN l (nextN l (0 : Int)))
     (@Nat.cast Int _
     (splitL
     (IntKind.u32.wrap
     (IntKind.i64.wrap
     ((1 : Int) +
     nextR l (0 : Int) (2 : Int))))
     (IntKind.i64.wrap
     ((1 : Int) +
     nextR l (nextN l (0 : Int))
     (4 : Int)))
     l_1).length) +
     (1 : Int))).toNat
     (List.drop (0 : Nat)
     (splitL
     (IntKind.u32.wrap
     (IntKind.i64.wrap
     ((1 : Int) +
     nextR l (0 : Int) (2 : Int))))
     (IntKind.i64.wrap
     ((1 : Int) +
     nextR l (nextN l (0 : Int)) (4 : Int)))
     l_1)) ++
     List.take
     ((splitL
     (IntKind.u32.wrap
     (IntKind.i64.wrap
     ((1 : Int) +
     nextR l (0 : Int) (2 : Int))))
     (IntKind.i64.wrap
     ((1 : Int) +
     nextR l (nextN l (0 : Int)) (4 : Int)))
     l_1).length -
     (nextR l (nextN l (nextN l (0 : Int)))
     (@Nat.cast Int _
     (splitL
     (IntKind.u32.wrap
     (IntKind.i64.wrap
     ((1 : Int) +
     nextR l (0 : Int) (2 : Int))))
     (IntKind.i64.wrap
     ((1 : Int) +
     nextR l (nextN l (0 : Int))
     (4 : Int)))
     l_1).length)).toNat)
     (List.drop
     ((0 : Nat) +
     (nextR l (nextN l (nextN l (0 : Int)))
     (@Nat.cast Int _
     (splitL
     (IntKind.u32.wrap
     (IntKind.i64.wrap
     ((1 : Int) +
     nextR l (0 : Int) (2 : Int))))
     (IntKind.i64.wrap
     ((1 : Int) +
     nextR l (nextN l (0 : Int))
     (4 : Int)))
     l_1).length)).toNat)
     (splitL
     (IntKind.u32.wrap
     (IntKind.i64.wrap
     ((1 : Int) +
     nextR l (0 : Int) (2 : Int))))
     (IntKind.i64.wrap
     ((1 : Int) +
     nextR l (nextN l (0 : Int)) (4 : Int)))
     l_1))))
     (post (AV.bool false) none)
     (br
     (!strEq
     (joinR
     (List.take
     (IntKind.i64.wrap
     (nextR l (nextN l (nextN l (0 : Int)))
     (@Nat.cast Int _
     (splitL
     (IntKind.u32.wrap
     (IntKind.i64.wrap
     ((1 : Int) +
     nextR l (0 : Int)
     (2 : Int))))
     (IntKind.i64.wrap
     ((1 : Int) +
     nextR l
     (nextN l (0 : Int))
     (4 : Int)))
     l_1).length) +
     (1 : Int))).toNat
     (List.drop (0 : Nat)
     (splitL
     (IntKind.u32.wrap
     (IntKind.i64.wrap
     ((1 : Int) +
     nextR l (0 : Int) (2 : Int))))
     (IntKind.i64.wrap
     ((1 : Int) +
     nextR l (nextN l (0 : Int))
     (4 : Int)))
     l_1)) ++
     List.take
     ((splitL
     (IntKind.u32.wrap
     (IntKind.i64.wrap
     ((1 : Int) +
     nextR l (0 : Int) (2 : Int))))
     (IntKind.i64.wrap
     ((1 : Int) +
     nextR l (nextN l (0 : Int))
     (4 : Int)))
     l_1).length -
     (nextR l (nextN l (nextN l (0 : Int)))
     (@Nat.cast Int _
     (splitL
     (IntKind.u32.wrap
     (IntKind.i64.wrap
     ((1 : Int) +
     nextR l (0 : Int)
     (2 : Int))))
     (IntKind.i64.wrap
     ((1 : Int) +
     nextR l (nextN l (0 : Int))
     (4 : Int)))
     l_1).length)).toNat)
     (List.drop
     ((0 : Nat) +
     (nextR l (nextN l (nextN l (0 : Int)))
     (@Nat.cast Int _
     (splitL
     (IntKind.u32.wrap
     (IntKind.i64.wrap
     ((1 : Int) +
     nextR l (0 : Int)
     (2 : Int))))
     (IntKind.i64.wrap
     ((1 : Int) +
     nextR l
     (nextN l (0 : Int))
     (4 : Int)))
     l_1).length)).toNat)
     (splitL
     (IntKind.u32.wrap
     (IntKind.i64.wrap
     ((1 : Int) +
     nextR l (0 : Int) (2 : Int))))
     (IntKind.i64.wrap
     ((1 : Int) +
     nextR l (nextN l (0 : Int))
     (4 : Int)))
     l_1)))).1
     (joinR
     (List.take
     (IntKind.i64.wrap
     (nextR l (nextN l (nextN l (0 : Int)))
     (@Nat.cast Int _
     (splitL
     (IntKind.u32.wrap
     (IntKind.i64.wrap
     ((1 : Int) +
     nextR l (0 : Int)
     (2 : Int))))
     (IntKind.i64.wrap
     ((1 : Int) +
     nextR l
     (nextN l (0 : Int))
     (4 : Int)))
     l_1).length) +
     (1 : Int))).toNat
     (List.drop (0 : Nat)
     (splitL
     (IntKind.u32.wrap
     (IntKind.i64.wrap
     ((1 : Int) +
     nextR l (0 : Int) (2 : Int))))
     (IntKind.i64.wrap
     ((1 : Int) +
     nextR l (nextN l (0 : Int))
     (4 : Int)))
     l_1)) ++
     List.take
     ((splitL
     (IntKind.u32.wrap
     (IntKind.i64.wrap
     ((1 : Int) +
     nextR l (0 : Int) (2 : Int))))
     (IntKind.i64.wrap
     ((1 : Int) +
     nextR l (nextN l (0 : Int))
     (4 : Int)))
     l_1).length -
     (nextR l (nextN l (nextN l (0 : Int)))
     (@Nat.cast Int _
     (splitL
     (IntKind.u32.wrap
     (IntKind.i64.wrap
     ((1 : Int) +
     nextR l (0 : Int)
     (2 : Int))))
     (IntKind.i64.wrap
     ((1 : Int) +
     nextR l (nextN l (0 : Int))
     (4 : Int)))
     l_1).length)).toNat)
     (List.drop
     ((0 : Nat) +
     (nextR l (nextN l (nextN l (0 : Int)))
     (@Nat.cast Int _
     (splitL
     (IntKind.u32.wrap
     (IntKind.i64.wrap
     ((1 : Int) +
     nextR l (0 : Int)
     (2 : Int))))
     (IntKind.i64.wrap
     ((1 : Int) +
     nextR l
     (nextN l (0 : Int))
     (4 : Int)))
     l_1).length)).toNat)
     (splitL
     (IntKind.u32.wrap
     (IntKind.i64.wrap
     ((1 : Int) +
     nextR l (0 : Int) (2 : Int))))
     (IntKind.i64.wrap
     ((1 : Int) +
     nextR l (nextN l (0 : Int))
     (4 : Int)))
     l_1)))).1)
     (post (AV.bool false) none)
     (br
     (joinU
     (List.take
     (IntKind.i64.wrap
     (nextR l (nextN l (nextN l (0 : Int)))
     (@Nat.cast Int _
     (splitL
     (IntKind.u32.wrap
     (IntKind.i64.wrap
     ((1 : Int) +
     nextR l (0 : Int)
     (2 : Int))))
     (IntKind.i64.wrap
     ((1 : Int) +
     nextR l (nextN l (0 : Int))
     (4 : Int)))
     l_1).length) +
     (1 : Int))).toNat
     (List.drop (0 : Nat)
     (splitL
     (IntKind.u32.wrap
     (IntKind.i64.wrap
     ((1 : Int) +
     nextR l (0 : Int) (2 : Int))))
     (IntKind.i64.wrap
     ((1 : Int) +
     nextR l (nextN l (0 : Int))
     (4 : Int)))
     l_1)) ++
     List.take
     ((splitL
     (IntKind.u32.wrap
     (IntKind.i64.wrap
     ((1 : Int) +
     nextR l (0 : Int) (2 : Int))))
     (IntKind.i64.wrap
     ((1 : Int) +
     nextR l (nextN l (0 : Int))
     (4 : Int)))
     l_1).length -
     (nextR l (nextN l (nextN l (0 : Int)))
     (@Nat.cast Int _
     (splitL
     (IntKind.u32.wrap
     (IntKind.i64.wrap
     ((1 : Int) +
     nextR l (0 : Int)
     (2 : Int))))
     (IntKind.i64.wrap
     ((1 : Int) +
     nextR l (nextN l (0 : Int))
     (4 : Int)))
     l_1).length)).toNat)
     (List.drop
     ((0 : Nat) +
     (nextR l (nextN l (nextN l (0 : Int)))
     (@Nat.cast Int _
     (splitL
     (IntKind.u32.wrap
     (IntKind.i64.wrap
     ((1 : Int) +
     nextR l (0 : Int)
     (2 : Int))))
     (IntKind.i64.wrap
     ((1 : Int) +
     nextR l (nextN l (0 : Int))
     (4 : Int)))
     l_1).length)).toNat)
     (splitL
     (IntKind.u32.wrap
     (IntKind.i64.wrap
     ((1 : Int) +
     nextR l (0 : Int) (2 : Int))))
     (IntKind.i64.wrap
     ((1 : Int) +
     nextR l (nextN l (0 : Int))
     (4 : Int)))
     l_1))) !=
     joinU
     (List.take
     (IntKind.i64.wrap
     (nextR l (nextN l (nextN l (0 : Int)))
     (@Nat.cast Int _
     (splitL
     (IntKind.u32.wrap
     (IntKind.i64.wrap
     ((1 : Int) +
     nextR l (0 : Int)
     (2 : Int))))
     (IntKind.i64.wrap
     ((1 : Int) +
     nextR l (nextN l (0 : Int))
     (4 : Int)))
     l_1).length) +
     (1 : Int))).toNat
     (List.drop (0 : Nat)
     (splitL
     (IntKind.u32.wrap
     (IntKind.i64.wrap
     ((1 : Int) +
     nextR l (0 : Int) (2 : Int))))
     (IntKind.i64.wrap
     ((1 : Int) +
     nextR l (nextN l (0 : Int))
     (4 : Int)))
     l_1)) ++
     List.take
     ((splitL
     (IntKind.u32.wrap
     (IntKind.i64.wrap
     ((1 : Int) +
     nextR l (0 : Int) (2 : Int))))
     (IntKind.i64.wrap
     ((1 : Int) +
     nextR l (nextN l (0 : Int))
     (4 : Int)))
     l_1).length -
     (nextR l (nextN l (nextN l (0 : Int)))
     (@Nat.cast Int _
     (splitL
     (IntKind.u32.wrap
     (IntKind.i64.wrap
     ((1 : Int) +
     nextR l (0 : Int)
     (2 : Int))))
     (IntKind.i64.wrap
     ((1 : Int) +
     nextR l (nextN l (0 : Int))
     (4 : Int)))
     l_1).length)).toNat)
     (List.drop
     ((0 : Nat) +
     (nextR l (nextN l (nextN l (0 : Int)))
     (@Nat.cast Int _
     (splitL
     (IntKind.u32.wrap
     (IntKind.i64.wrap
     ((1 : Int) +
     nextR l (0 : Int)
     (2 : Int))))
     (IntKind.i64.wrap
     ((1 : Int) +
     nextR l (nextN l (0 : Int))
     (4 : Int)))
     l_1).length)).toNat)
     (splitL
     (IntKind.u32.wrap
     (IntKind.i64.wrap
     ((1 : Int) +
     nextR l (0 : Int) (2 : Int))))
     (IntKind.i64.wrap
     ((1 : Int) +
     nextR l (nextN l (0 : Int))
     (4 : Int)))
     l_1))))
     (post (AV.bool false) none)
     (br
     ((joinR
     (List.take
     (IntKind.i64.wrap
     (nextR l (nextN l (nextN l (0 : Int)))
     (@Nat.cast Int _
     (splitL
     (IntKind.u32.wrap
     (IntKind.i64.wrap
     ((1 : Int) +
     nextR l (0 : Int)
     (2 : Int))))
     (IntKind.i64.wrap
     ((1 : Int) +
     nextR l
     (nextN l (0 : Int))
     (4 : Int)))
     l_1).length) +
     (1 : Int))).toNat
     (List.drop (0 : Nat)
     (splitL
     (IntKind.u32.wrap
     (IntKind.i64.wrap
     ((1 : Int) +
     nextR l (0 : Int) (2 : Int))))
     (IntKind.i64.wrap
     ((1 : Int) +
     nextR l (nextN l (0 : Int))
     (4 : Int)))
     l_1)) ++
     List.take
     ((splitL
     (IntKind.u32.wrap
     (IntKind.i64.wrap
     ((1 : Int) +
     nextR l (0 : Int) (2 : Int))))
     (IntKind.i64.wrap
     ((1 : Int) +
     nextR l (nextN l (0 : Int))
     (4 : Int)))
     l_1).length -
     (nextR l (nextN l (nextN l (0 : Int)))
     (@Nat.cast Int _
     (splitL
     (IntKind.u32.wrap
     (IntKind.i64.wrap
     ((1 : Int) +
     nextR l (0 : Int)
     (2 : Int))))
     (IntKind.i64.wrap
     ((1 : Int) +
     nextR l
     (nextN l (0 : Int))
     (4 : Int)))
     l_1).length)).toNat)
     (List.drop
     ((0 : Nat) +
     (nextR l (nextN l (nextN l (0 : Int)))
     (@Nat.cast Int _
     (splitL
     (IntKind.u32.wrap
     (IntKind.i64.wrap
     ((1 : Int) +
     nextR l (0 : Int)
     (2 : Int))))
     (IntKind.i64.wrap
     ((1 : Int) +
     nextR l
     (nextN l (0 : Int))
     (4 : Int)))
     l_1).length)).toNat)
     (splitL
     (IntKind.u32.wrap
     (IntKind.i64.wrap
     ((1 : Int) +
     nextR l (0 : Int) (2 : Int))))
     (IntKind.i64.wrap
     ((1 : Int) +
     nextR l (nextN l (0 : Int))
     (4 : Int)))
     l_1)))).2 !=
     (joinR
     (List.take
     (IntKind.i64.wrap
     (nextR l (nextN l (nextN l (0 : Int)))
     (@Nat.cast Int _
     (splitL
     (IntKind.u32.wrap
     (IntKind.i64.wrap
     ((1 : Int) +
     nextR l (0 : Int)
     (2 : Int))))
     (IntKind.i64.wrap
     ((1 : Int) +
     nextR l
     (nextN l (0 : Int))
     (4 : Int)))
     l_1).length) +
     (1 : Int))).toNat
     (List.drop (0 : Nat)
     (splitL
     (IntKind.u32.wrap
     (IntKind.i64.wrap
     ((1 : Int) +
     nextR l (0 : Int) (2 : Int))))
     (IntKind.i64.wrap
     ((1 : Int) +
     nextR l (nextN l (0 : Int))
     (4 : Int)))
     l_1)) ++
     List.take
     ((splitL
     (IntKind.u32.wrap
     (IntKind.i64.wrap
     ((1 : Int) +
     nextR l (0 : Int) (2 : Int))))
     (IntKind.i64.wrap
     ((1 : Int) +
     nextR l (nextN l (0 : Int))
     (4 : Int)))
     l_1).length -
     (nextR l (nextN l (nextN l (0 : Int)))
     (@Nat.cast Int _
     (splitL
     (IntKind.u32.wrap
     (IntKind.i64.wrap
     ((1 : Int) +
     nextR l (0 : Int)
     (2 : Int))))
     (IntKind.i64.wrap
     ((1 : Int) +
     nextR l
     (nextN l (0 : Int))
     (4 : Int)))
     l_1).length)).toNat)
     (List.drop
     ((0 : Nat) +
     (nextR l (nextN l (nextN l (0 : Int)))
     (@Nat.cast Int _
     (splitL
     (IntKind.u32.wrap
     (IntKind.i64.wrap
     ((1 : Int) +
     nextR l (0 : Int)
     (2 : Int))))
     (IntKind.i64.wrap
     ((1 : Int) +
     nextR l
     (nextN l (0 : Int))
     (4 : Int)))
     l_1).length)).toNat)
     (splitL
     (IntKind.u32.wrap
     (IntKind.i64.wrap
     ((1 : Int) +
     nextR l (0 : Int) (2 : Int))))
     (IntKind.i64.wrap
     ((1 : Int) +
     nextR l (nextN l (0 : Int))
     (4 : Int)))
     l_1)))).2)
     (post (AV.bool false) none)
     (post (AV.bool true) none)))))))))))))))))
     (br (nextR l (nextN l (nextN l (nextN l (0 : Int)))) (7 : Int) == (6 : Int))
     (chk
     (decide
     ((0 : Int) < (6 : Int) ∧
     (6 : Int) ≤ (1000000 : Int) ∧
     (0 : Int) ≤ nextN l (nextN l (nextN l (nextN l (0 : Int)))) ∧
     nextN l (nextN l (nextN l (nextN l (0 : Int)))) ≤ @Nat.cast Int _ l.length))
     (chk
     (inB (nextR l (nextN l (nextN l (nextN l (nextN l (0 : Int))))) (6 : Int))
     (6 : Nat))
     (chk
     (decide
     ((nextR l (nextN l (nextN l (nextN l (nextN l (0 : Int)))))
     (6 : Int)).toNat <
     (6 : Nat)))
     (chk
     (inB (0 : Int)
     (splitL
     (IntKind.u32.wrap
     (IntKind.i64.wrap ((1 : Int) + nextR l (0 : Int) (2 : Int))))
     (IntKind.i64.wrap
     ((1 : Int) + nextR l (nextN l (0 : Int)) (4 : Int)))
     l_1).length)
     (chk
     (decide
     ((0 : Nat) <
     (splitL
     (IntKind.u32.wrap
     (IntKind.i64.wrap ((1 : Int) + nextR l (0 : Int) (2 : Int))))
     (IntKind.i64.wrap
     ((1 : Int) + nextR l (nextN l (0 : Int)) (4 : Int)))
     l_1).length))
     (br (joinC ps != joinC ps) (post (AV.bool false) none)
     (br (!strEq (joinR ps).1 (joinR ps).1) (post (AV.bool false) none)
     (br (joinU ps != joinU ps) (post (AV.bool false) none)
     (br ((joinR ps).2 != (joinR ps).2) (post (AV.bool false) none)
     (br
     (joinC
     (splitL
     (IntKind.u32.wrap
     (IntKind.i64.wrap
     ((1 : Int) + nextR l (0 : Int) (2 : Int))))
     (IntKind.i64.wrap
     ((1 : Int) + nextR l (nextN l (0 : Int)) (4 : Int)))
     l_1) !=
     joinC
     (splitL
     (IntKind.u32.wrap
     (IntKind.i64.wrap
     ((1 : Int) + nextR l (0 : Int) (2 : Int))))
     (IntKind.i64.wrap
     ((1 : Int) + nextR l (nextN l (0 : Int)) (4 : Int)))
     l_1))
     (post (AV.bool false) none)
     (br
     (!strEq
     (joinR
     (splitL
     (IntKind.u32.wrap
     (IntKind.i64.wrap
     ((1 : Int) + nextR l (0 : Int) (2 : Int))))
     (IntKind.i64.wrap
     ((1 : Int) +
     nextR l (nextN l (0 : Int)) (4 : Int)))
     l_1)).1
     (joinR
     (splitL
     (IntKind.u32.wrap
     (IntKind.i64.wrap
     ((1 : Int) + nextR l (0 : Int) (2 : Int))))
     (IntKind.i64.wrap
     ((1 : Int) +
     nextR l (nextN l (0 : Int)) (4 : Int)))
     l_1)).1)
     (post (AV.bool false) none)
     (br
     (joinU
     (splitL
     (IntKind.u32.wrap
     (IntKind.i64.wrap
     ((1 : Int) + nextR l (0 : Int) (2 : Int))))
     (IntKind.i64.wrap
     ((1 : Int) +
     nextR l (nextN l (0 : Int)) (4 : Int)))
     l_1) !=
     joinU
     (splitL
     (IntKind.u32.wrap
     (IntKind.i64.wrap
     ((1 : Int) + nextR l (0 : Int) (2 : Int))))
     (IntKind.i64.wrap
     ((1 : Int) +
     nextR l (nextN l (0 : Int)) (4 : Int)))
     l_1))
     (post (AV.bool false) none)
     (br
     ((joinR
     (splitL
     (IntKind.u32.wrap
     (IntKind.i64.wrap
     ((1 : Int) + nextR l (0 : Int) (2 : Int))))
     (IntKind.i64.wrap
     ((1 : Int) +
     nextR l (nextN l (0 : Int)) (4 : Int)))
     l_1)).2 !=
     (joinR
     (splitL
     (IntKind.u32.wrap
     (IntKind.i64.wrap
     ((1 : Int) + nextR l (0 : Int) (2 : Int))))
     (IntKind.i64.wrap
     ((1 : Int) +
     nextR l (nextN l (0 : Int)) (4 : Int)))
     l_1)).2)
     (post (AV.bool false) none)
     (br
     (joinC
     ((splitL
     (IntKind.u32.wrap
     (IntKind.i64.wrap
     ((1 : Int) +
     nextR l (0 : Int) (2 : Int))))
     (IntKind.i64.wrap
     ((1 : Int) +
     nextR l (nextN l (0 : Int)) (4 : Int)))
     l_1).set
     (0 : Nat)
     (Rec.mk
     ((splitL
     (IntKind.u32.wrap
     (IntKind.i64.wrap
     ((1 : Int) +
     nextR l (0 : Int) (2 : Int))))
     (IntKind.i64.wrap
     ((1 : Int) +
     nextR l (nextN l (0 : Int))
     (4 : Int)))
     l_1).getD
     (0 : Nat) default).1
     ((splitL
     (IntKind.u32.wrap
     (IntKind.i64.wrap
     ((1 : Int) +
     nextR l (0 : Int) (2 : Int))))
     (IntKind.i64.wrap
     ((1 : Int) +
     nextR l (nextN l (0 : Int))
     (4 : Int)))
     l_1).getD
     (0 : Nat) default).2
     ([(0 : Int), (57 : Int), (58 : Int),
     (4097 : Int), (-1 : Int),
     (70000 : Int)].getD
     (nextR l
     (nextN l
     (nextN l
     (nextN l (nextN l (0 : Int)))))
     (6 : Int)).toNat
     (0 : Int))
     ((splitL
     (IntKind.u32.wrap
     (IntKind.i64.wrap
     ((1 : Int) +
     nextR l (0 : Int) (2 : Int))))
     (IntKind.i64.wrap
     ((1 : Int) +
     nextR l (nextN l (0 : Int))
     (4 : Int)))
     l_1).getD
     (0 : Nat) default).4
     ((splitL
     (IntKind.u32.wrap
     (IntKind.i64.wrap
     ((1 : Int) +
     nextR l (0 : Int) (2 : Int))))
     (IntKind.i64.wrap
     ((1 : Int) +
     nextR l (nextN l (0 : Int))
     (4 : Int)))
     l_1).getD
     (0 : Nat) default).5
     ((splitL
     (IntKind.u32.wrap
     (IntKind.i64.wrap
     ((1 : Int) +
     nextR l (0 : Int) (2 : Int))))
     (IntKind.i64.wrap
     ((1 : Int) +
     nextR l (nextN l (0 : Int))
     (4 : Int)))
     l_1).getD
     (0 : Nat) default).6)) !=
     joinC
     ((splitL
     (IntKind.u32.wrap
     (IntKind.i64.wrap
     ((1 : Int) +
     nextR l (0 : Int) (2 : Int))))
     (IntKind.i64.wrap
     ((1 : Int) +
     nextR l (nextN l (0 : Int)) (4 : Int)))
     l_1).set
     (0 : Nat)
     (Rec.mk
     ((splitL
     (IntKind.u32.wrap
     (IntKind.i64.wrap
     ((1 : Int) +
     nextR l (0 : Int) (2 : Int))))
     (IntKind.i64.wrap
     ((1 : Int) +
     nextR l (nextN l (0 : Int))
     (4 : Int)))
     l_1).getD
     (0 : Nat) default).1
     ((splitL
     (IntKind.u32.wrap
     (IntKind.i64.wrap
     ((1 : Int) +
     nextR l (0 : Int) (2 : Int))))
     (IntKind.i64.wrap
     ((1 : Int) +
     nextR l (nextN l (0 : Int))
     (4 : Int)))
     l_1).getD
     (0 : Nat) default).2
     ([(0 : Int), (57 : Int), (58 : Int),
     (4097 : Int), (-1 : Int),
     (70000 : Int)].getD
     (nextR l
     (nextN l
     (nextN l
     (nextN l (nextN l (0 : Int)))))
     (6 : Int)).toNat
     (0 : Int))
     ((splitL
     (IntKind.u32.wrap
     (IntKind.i64.wrap
     ((1 : Int) +
     nextR l (0 : Int) (2 : Int))))
     (IntKind.i64.wrap
     ((1 : Int) +
     nextR l (nextN l (0 : Int))
     (4 : Int)))
     l_1).getD
     (0 : Nat) default).4
     ((splitL
     (IntKind.u32.wrap
     (IntKind.i64.wrap
     ((1 : Int) +
     nextR l (0 : Int) (2 : Int))))
     (IntKind.i64.wrap
     ((1 : Int) +
     nextR l (nextN l (0 : Int))
     (4 : Int)))
     l_1).getD
     (0 : Nat) default).5
     ((splitL
     (IntKind.u32.wrap
     (IntKind.i64.wrap
     ((1 : Int) +
     nextR l (0 : Int) (2 : Int))))
     (IntKind.i64.wrap
     ((1 : Int) +
     nextR l (nextN l (0 : Int))
     (4 : Int)))
     l_1).getD
     (0 : Nat) default).6)))
     (post (AV.bool false) none)
     (br
     (!strEq
     (joinR
     ((splitL
     (IntKind.u32.wrap
     (IntKind.i64.wrap
     ((1 : Int) +
     nextR l (0 : Int) (2 : Int))))
     (IntKind.i64.wrap
     ((1 : Int) +
     nextR l (nextN l (0 : Int))
     (4 : Int)))
     l_1).set
     (0 : Nat)
     (Rec.mk
     ((splitL
     (IntKind.u32.wrap
     (IntKind.i64.wrap
     ((1 : Int) +
     nextR l (0 : Int)
     (2 : Int))))
     (IntKind.i64.wrap
     ((1 : Int) +
     nextR l (nextN l (0 : Int))
     (4 : Int)))
     l_1).getD
     (0 : Nat) default).1
     ((splitL
     (IntKind.u32.wrap
     (IntKind.i64.wrap
     ((1 : Int) +
     nextR l (0 : Int)
     (2 : Int))))
     (IntKind.i64.wrap
     ((1 : Int) +
     nextR l (nextN l (0 : Int))
     (4 : Int)))
     l_1).getD
     (0 : Nat) default).2
     ([(0 : Int), (57 : Int), (58 : Int),
     (4097 : Int), (-1 : Int),
     (70000 : Int)].getD
     (nextR l
     (nextN l
     (nextN l
     (nextN l
     (nextN l (0 : Int)))))
     (6 : Int)).toNat
     (0 : Int))
     ((splitL
     (IntKind.u32.wrap
     (IntKind.i64.wrap
     ((1 : Int) +
     nextR l (0 : Int)
     (2 : Int))))
     (IntKind.i64.wrap
     ((1 : Int) +
     nextR l (nextN l (0 : Int))
     (4 : Int)))
     l_1).getD
     (0 : Nat) default).4
     ((splitL
     (IntKind.u32.wrap
     (IntKind.i64.wrap
     ((1 : Int) +
     nextR l (0 : Int)
     (2 : Int))))
     (IntKind.i64.wrap
     ((1 : Int) +
     nextR l (nextN l (0 : Int))
     (4 : Int)))
     l_1).getD
     (0 : Nat) default).5
     ((splitL
     (IntKind.u32.wrap
     (IntKind.i64.wrap
     ((1 : Int) +
     nextR l (0 : Int)
     (2 : Int))))
     (IntKind.i64.wrap
     ((1 : Int) +
     nextR l (nextN l (0 : Int))
     (4 : Int)))
     l_1).getD
     (0 : Nat) default).6))).1
     (joinR
     ((splitL
     (IntKind.u32.wrap
     (IntKind.i64.wrap
     ((1 : Int) +
     nextR l (0 : Int) (2 : Int))))
     (IntKind.i64.wrap
     ((1 : Int) +
     nextR l (nextN l (0 : Int))
     (4 : Int)))
     l_1).set
     (0 : Nat)
     (Rec.mk
     ((splitL
     (IntKind.u32.wrap
     (IntKind.i64.wrap
     ((1 : Int) +
     nextR l (0 : Int)
     (2 : Int))))
     (IntKind.i64.wrap
     ((1 : Int) +
     nextR l (nextN l (0 : Int))
     (4 : Int)))
     l_1).getD
     (0 : Nat) default).1
     ((splitL
     (IntKind.u32.wrap
     (IntKind.i64.wrap
     ((1 : Int) +
     nextR l (0 : Int)
     (2 : Int))))
     (IntKind.i64.wrap
     ((1 : Int) +
     nextR l (nextN l (0 : Int))
     (4 : Int)))
     l_1).getD
     (0 : Nat) default).2
     ([(0 : Int), (57 : Int), (58 : Int),
     (4097 : Int), (-1 : Int),
     (70000 : Int)].getD
     (nextR l
     (nextN l
     (nextN l
     (nextN l
     (nextN l (0 : Int)))))
     (6 : Int)).toNat
     (0 : Int))
     ((splitL
     (IntKind.u32.wrap
     (IntKind.i64.wrap
     ((1 : Int) +
     nextR l (0 : Int)
     (2 : Int))))
     (IntKind.i64.wrap
     ((1 : Int) +
     nextR l (nextN l (0 : Int))
     (4 : Int)))
     l_1).getD
     (0 : Nat) default).4
     ((splitL
     (IntKind.u32.wrap
     (IntKind.i64.wrap
     ((1 : Int) +
     nextR l (0 : Int)
     (2 : Int))))
     (IntKind.i64.wrap
     ((1 : Int) +
     nextR l (nextN l (0 : Int))
     (4 : Int)))
     l_1).getD
     (0 : Nat) default).5
     ((splitL
     (IntKind.u32.wrap
     (IntKind.i64.wrap
     ((1 : Int) +
     nextR l (0 : Int)
     (2 : Int))))
     (IntKind.i64.wrap
     ((1 : Int) +
     nextR l (nextN l (0 : Int))
     (4 : Int)))
     l_1).getD
     (0 : Nat) default).6))).1)
     (post (AV.bool false) none)
     (br
     (joinU
     ((splitL
     (IntKind.u32.wrap
     (IntKind.i64.wrap
     ((1 : Int) +
     nextR l (0 : Int) (2 : Int))))
     (IntKind.i64.wrap
     ((1 : Int) +
     nextR l (nextN l (0 : Int))
     (4 : Int)))
     l_1).set
     (0 : Nat)
     (Rec.mk
     ((splitL
     (IntKind.u32.wrap
     (IntKind.i64.wrap
     ((1 : Int) +
     nextR l (0 : Int)
     (2 : Int))))
     (IntKind.i64.wrap
     ((1 : Int) +
     nextR l (nextN l (0 : Int))
     (4 : Int)))
     l_1).getD
     (0 : Nat) default).1
     ((splitL
     (IntKind.u32.wrap
     (IntKind.i64.wrap
     ((1 : Int) +
     nextR l (0 : Int)
     (2 : Int))))
     (IntKind.i64.wrap
     ((1 : Int) +
     nextR l (nextN l (0 : Int))
     (4 : Int)))
     l_1).getD
     (0 : Nat) default).2
     ([(0 : Int), (57 : Int), (58 : Int),
     (4097 : Int), (-1 : Int),
     (70000 : Int)].getD
     (nextR l
     (nextN l
     (nextN l
     (nextN l (nextN l (0 : Int)))))
     (6 : Int)).toNat
     (0 : Int))
     ((splitL
     (IntKind.u32.wrap
     (IntKind.i64.wrap
     ((1 : Int) +
     nextR l (0 : Int)
     (2 : Int))))
     (IntKind.i64.wrap
     ((1 : Int) +
     nextR l (nextN l (0 : Int))
     (4 : Int)))
     l_1).getD
     (0 : Nat) default).4
     ((splitL
     (IntKind.u32.wrap
     (IntKind.i64.wrap
     ((1 : Int) +
     nextR l (0 : Int)
     (2 : Int))))
     (IntKind.i64.wrap
     ((1 : Int) +
     nextR l (nextN l (0 : Int))
     (4 : Int)))
     l_1).getD
     (0 : Nat) default).5
     ((splitL
     (IntKind.u32.wrap
     (IntKind.i64.wrap
     ((1 : Int) +
     nextR l (0 : Int)
     (2 : Int))))
     (IntKind.i64.wrap
     ((1 : Int) +
     nextR l (nextN l (0 : Int))
     (4 : Int)))
     l_1).getD
     (0 : Nat) default).6)) !=
     joinU
     ((splitL
     (IntKind.u32.wrap
     (IntKind.i64.wrap
     ((1 : Int) +
     nextR l (0 : Int) (2 : Int))))
     (IntKind.i64.wrap
     ((1 : Int) +
     nextR l (nextN l (0 : Int))
     (4 : Int)))
     l_1).set
     (0 : Nat)
     (Rec.mk
     ((splitL
     (IntKind.u32.wrap
     (IntKind.i64.wrap
     ((1 : Int) +
     nextR l (0 : Int)
     (2 : Int))))
     (IntKind.i64.wrap
     ((1 : Int) +
     nextR l (nextN l (0 : Int))
     (4 : Int)))
     l_1).getD
     (0 : Nat) default).1
     ((splitL
     (IntKind.u32.wrap
     (IntKind.i64.wrap
     ((1 : Int) +
     nextR l (0 : Int)
     (2 : Int))))
     (IntKind.i64.wrap
     ((1 : Int) +
     nextR l (nextN l (0 : Int))
     (4 : Int)))
     l_1).getD
     (0 : Nat) default).2
     ([(0 : Int), (57 : Int), (58 : Int),
     (4097 : Int), (-1 : Int),
     (70000 : Int)].getD
     (nextR l
     (nextN l
     (nextN l
     (nextN l (nextN l (0 : Int)))))
     (6 : Int)).toNat
     (0 : Int))
     ((splitL
     (IntKind.u32.wrap
     (IntKind.i64.wrap
     ((1 : Int) +
     nextR l (0 : Int)
     (2 : Int))))
     (IntKind.i64.wrap
     ((1 : Int) +
     nextR l (nextN l (0 : Int))
     (4 : Int)))
     l_1).getD
     (0 : Nat) default).4
     ((splitL
     (IntKind.u32.wrap
     (IntKind.i64.wrap
     ((1 : Int) +
     nextR l (0 : Int)
     (2 : Int))))
     (IntKind.i64.wrap
     ((1 : Int) +
     nextR l (nextN l (0 : Int))
     (4 : Int)))
     l_1).getD
     (0 : Nat) default).5
     ((splitL
     (IntKind.u32.wrap
     (IntKind.i64.wrap
     ((1 : Int) +
     nextR l (0 : Int)
     (2 : Int))))
     (IntKind.i64.wrap
     ((1 : Int) +
     nextR l (nextN l (0 : Int))
     (4 : Int)))
     l_1).getD
     (0 : Nat) default).6)))
     (post (AV.bool false) none)
     (br
     ((joinR
     ((splitL
     (IntKind.u32.wrap
     (IntKind.i64.wrap
     ((1 : Int) +
     nextR l (0 : Int) (2 : Int))))
     (IntKind.i64.wrap
     ((1 : Int) +
     nextR l (nextN l (0 : Int))
     (4 : Int)))
     l_1).set
     (0 : Nat)
     (Rec.mk
     ((splitL
     (IntKind.u32.wrap
     (IntKind.i64.wrap
     ((1 : Int) +
     nextR l (0 : Int)
     (2 : Int))))
     (IntKind.i64.wrap
     ((1 : Int) +
     nextR l
     (nextN l (0 : Int))
     (4 : Int)))
     l_1).getD
     (0 : Nat) default).1
     ((splitL
     (IntKind.u32.wrap
     (IntKind.i64.wrap
     ((1 : Int) +
     nextR l (0 : Int)
     (2 : Int))))
     (IntKind.i64.wrap
     ((1 : Int) +
     nextR l
     (nextN l (0 : Int))
     (4 : Int)))
     l_1).getD
     (0 : Nat) default).2
     ([(0 : Int), (57 : Int), (58 : Int),
     (4097 : Int), (-1 : Int),
     (70000 : Int)].getD
     (nextR l
     (nextN l
     (nextN l
     (nextN l
     (nextN l (0 : Int)))))
     (6 : Int)).toNat
     (0 : Int))
     ((splitL
     (IntKind.u32.wrap
     (IntKind.i64.wrap
     ((1 : Int) +
     nextR l (0 : Int)
     (2 : Int))))
     (IntKind.i64.wrap
     ((1 : Int) +
     nextR l
     (nextN l (0 : Int))
     (4 : Int)))
     l_1).getD
     (0 : Nat) default).4
     ((splitL
     (IntKind.u32.wrap
     (IntKind.i64.wrap
     ((1 : Int) +
     nextR l (0 : Int)
     (2 : Int))))
     (IntKind.i64.wrap
     ((1 : Int) +
     nextR l
     (nextN l (0 : Int))
     (4 : Int)))
     l_1).getD
     (0 : Nat) default).5
     ((splitL
     (IntKind.u32.wrap
     (IntKind.i64.wrap
     ((1 : Int) +
     nextR l (0 : Int)
     (2 : Int))))
     (IntKind.i64.wrap
     ((1 : Int) +
     nextR l
     (nextN l (0 : Int))
     (4 : Int)))
     l_1).getD
     (0 : Nat) default).6))).2 !=
     (joinR
     ((splitL
     (IntKind.u32.wrap
     (IntKind.i64.wrap
     ((1 : Int) +
     nextR l (0 : Int) (2 : Int))))
     (IntKind.i64.wrap
     ((1 : Int) +
     nextR l (nextN l (0 : Int))
     (4 : Int)))
     l_1).set
     (0 : Nat)
     (Rec.mk
     ((splitL
     (IntKind.u32.wrap
     (IntKind.i64.wrap
     ((1 : Int) +
     nextR l (0 : Int)
     (2 : Int))))
     (IntKind.i64.wrap
     ((1 : Int) +
     nextR l
     (nextN l (0 : Int))
     (4 : Int)))
     l_1).getD
     (0 : Nat) default).1
     ((splitL
     (IntKind.u32.wrap
     (IntKind.i64.wrap
     ((1 : Int) +
     nextR l (0 : Int)
     (2 : Int))))
     (IntKind.i64.wrap
     ((1 : Int) +
     nextR l
     (nextN l (0 : Int))
     (4 : Int)))
     l_1).getD
     (0 : Nat) default).2
     ([(0 : Int), (57 : Int), (58 : Int),
     (4097 : Int), (-1 : Int),
     (70000 : Int)].getD
     (nextR l
     (nextN l
     (nextN l
     (nextN l
     (nextN l (0 : Int)))))
     (6 : Int)).toNat
     (0 : Int))
     ((splitL
     (IntKind.u32.wrap
     (IntKind.i64.wrap
     ((1 : Int) +
     nextR l (0 : Int)
     (2 : Int))))
     (IntKind.i64.wrap
     ((1 : Int) +
     nextR l
     (nextN l (0 : Int))
     (4 : Int)))
     l_1).getD
     (0 : Nat) default).4
     ((splitL
     (IntKind.u32.wrap
     (IntKind.i64.wrap
     ((1 : Int) +
     nextR l (0 : Int)
     (2 : Int))))
     (IntKind.i64.wrap
     ((1 : Int) +
     nextR l
     (nextN l (0 : Int))
     (4 : Int)))
     l_1).getD
     (0 : Nat) default).5
     ((splitL
     (IntKind.u32.wrap
     (IntKind.i64.wrap
     ((1 : Int) +
     nextR l (0 : Int)
     (2 : Int))))
     (IntKind.i64.wrap
     ((1 : Int) +
     nextR l
     (nextN l (0 : Int))
     (4 : Int)))
     l_1).getD
     (0 : Nat) default).6))).2)
     (post (AV.bool false) none)
     (post (AV.bool true) none))))))))))))))))))
     (br (joinC ps != joinC ps) (post (AV.bool false) none)
     (br (!strEq (joinR ps).1 (joinR ps).1) (post (AV.bool false) none)
     (br (joinU ps != joinU ps) (post (AV.bool false) none)
     (br ((joinR ps).2 != (joinR ps).2) (post (AV.bool false) none)
     (br
     (joinC
     (splitL
     (IntKind.u32.wrap
     (IntKind.i64.wrap ((1 : Int) + nextR l (0 : Int) (2 : Int))))
     (IntKind.i64.wrap
     ((1 : Int) + nextR l (nextN l (0 : Int)) (4 : Int)))
     l_1) !=
     joinC
     (splitL
     (IntKind.u32.wrap
     (IntKind.i64.wrap ((1 : Int) + nextR l (0 : Int) (2 : Int))))
     (IntKind.i64.wrap
     ((1 : Int) + nextR l (nextN l (0 : Int)) (4 : Int)))
     l_1))
     (post (AV.bool false) none)
     (br
     (!strEq
     (joinR
     (splitL
     (IntKind.u32.wrap
     (IntKind.i64.wrap
     ((1 : Int) + nextR l (0 : Int) (2 : Int))))
     (IntKind.i64.wrap
     ((1 : Int) + nextR l (nextN l (0 : Int)) (4 : Int)))
     l_1)).1
     (joinR
     (splitL
     (IntKind.u32.wrap
     (IntKind.i64.wrap
     ((1 : Int) + nextR l (0 : Int) (2 : Int))))
     (IntKind.i64.wrap
     ((1 : Int) + nextR l (nextN l (0 : Int)) (4 : Int)))
     l_1)).1)
     (post (AV.bool false) none)
     (br
     (joinU
     (splitL
     (IntKind.u32.wrap
     (IntKind.i64.wrap
     ((1 : Int) + nextR l (0 : Int) (2 : Int))))
     (IntKind.i64.wrap
     ((1 : Int) + nextR l (nextN l (0 : Int)) (4 : Int)))
     l_1) !=
     joinU
     (splitL
     (IntKind.u32.wrap
     (IntKind.i64.wrap
     ((1 : Int) + nextR l (0 : Int) (2 : Int))))
     (IntKind.i64.wrap
     ((1 : Int) + nextR l (nextN l (0 : Int)) (4 : Int)))
     l_1))
     (post (AV.bool false) none)
     (br
     ((joinR
     (splitL
     (IntKind.u32.wrap
     (IntKind.i64.wrap
     ((1 : Int) + nextR l (0 : Int) (2 : Int))))
     (IntKind.i64.wrap
     ((1 : Int) + nextR l (nextN l (0 : Int)) (4 : Int)))
     l_1)).2 !=
     (joinR
     (splitL
     (IntKind.u32.wrap
     (IntKind.i64.wrap
     ((1 : Int) + nextR l (0 : Int) (2 : Int))))
     (IntKind.i64.wrap
     ((1 : Int) + nextR l (nextN l (0 : Int)) (4 : Int)))
     l_1)).2)
     (post (AV.bool false) none)
     (br
     (joinC
     (splitL
     (IntKind.u32.wrap
     (IntKind.i64.wrap
     ((1 : Int) + nextR l (0 : Int) (2 : Int))))
     (IntKind.i64.wrap
     ((1 : Int) + nextR l (nextN l (0 : Int)) (4 : Int)))
     l_1) !=
     joinC
     (splitL
     (IntKind.u32.wrap
     (IntKind.i64.wrap
     ((1 : Int) + nextR l (0 : Int) (2 : Int))))
     (IntKind.i64.wrap
     ((1 : Int) + nextR l (nextN l (0 : Int)) (4 : Int)))
     l_1))
     (post (AV.bool false) none)
     (br
     (!strEq
     (joinR
     (splitL
     (IntKind.u32.wrap
     (IntKind.i64.wrap
     ((1 : Int) + nextR l (0 : Int) (2 : Int))))
     (IntKind.i64.wrap
     ((1 : Int) +
     nextR l (nextN l (0 : Int)) (4 : Int)))
     l_1)).1
     (joinR
     (splitL
     (IntKind.u32.wrap
     (IntKind.i64.wrap
     ((1 : Int) + nextR l (0 : Int) (2 : Int))))
     (IntKind.i64.wrap
     ((1 : Int) +
     nextR l (nextN l (0 : Int)) (4 : Int)))
     l_1)).1)
     (post (AV.bool false) none)
     (br
     (joinU
     (splitL
     (IntKind.u32.wrap
     (IntKind.i64.wrap
     ((1 : Int) + nextR l (0 : Int) (2 : Int))))
     (IntKind.i64.wrap
     ((1 : Int) + nextR l (nextN l (0 : Int)) (4 : Int)))
     l_1) !=
     joinU
     (splitL
     (IntKind.u32.wrap
     (IntKind.i64.wrap
     ((1 : Int) + nextR l (0 : Int) (2 : Int))))
     (IntKind.i64.wrap
     ((1 : Int) + nextR l (nextN l (0 : Int)) (4 : Int)))
     l_1))
     (post (AV.bool false) none)
     (br
     ((joinR
     (splitL
     (IntKind.u32.wrap
     (IntKind.i64.wrap
     ((1 : Int) + nextR l (0 : Int) (2 : Int))))
     (IntKind.i64.wrap
     ((1 : Int) +
     nextR l (nextN l (0 : Int)) (4 : Int)))
     l_1)).2 !=
     (joinR
     (splitL
     (IntKind.u32.wrap
     (IntKind.i64.wrap
     ((1 : Int) + nextR l (0 : Int) (2 : Int))))
     (IntKind.i64.wrap
     ((1 : Int) +
     nextR l (nextN l (0 : Int)) (4 : Int)))
     l_1)).2)
     (post (AV.bool false) none)
     (post (AV.bool true) none))))))))))))))))))))))
     (br (joinC ps != joinC ps) (post (AV.bool false) none)
     (br (!strEq (joinR ps).1 (joinR ps).1) (post (AV.bool false) none)
     (br (joinU ps != joinU ps) (post (AV.bool false) none)
     (br ((joinR ps).2 != (joinR ps).2) (post (AV.bool false) none)
     (br
     (joinC
     (splitL
     (IntKind.u32.wrap (IntKind.i64.wrap ((1 : Int) + nextR l (0 : Int) (2 : Int))))
     (IntKind.i64.wrap ((1 : Int) + nextR l (nextN l (0 : Int)) (4 : Int))) l_1) !=
     joinC
     (splitL
     (IntKind.u32.wrap (IntKind.i64.wrap ((1 : Int) + nextR l (0 : Int) (2 : Int))))
     (IntKind.i64.wrap ((1 : Int) + nextR l (nextN l (0 : Int)) (4 : Int))) l_1))
     (post (AV.bool false) none)
     (br
     (!strEq
     (joinR
     (splitL
     (IntKind.u32.wrap
     (IntKind.i64.wrap ((1 : Int) + nextR l (0 : Int) (2 : Int))))
     (IntKind.i64.wrap ((1 : Int) + nextR l (nextN l (0 : Int)) (4 : Int))) l_1)).1
     (joinR
     (splitL
     (IntKind.u32.wrap
     (IntKind.i64.wrap ((1 : Int) + nextR l (0 : Int) (2 : Int))))
     (IntKind.i64.wrap ((1 : Int) + nextR l (nextN l (0 : Int)) (4 : Int)))
     l_1)).1)
     (post (AV.bool false) none)
     (br
     (joinU
     (splitL
     (IntKind.u32.wrap (IntKind.i64.wrap ((1 : Int) + nextR l (0 : Int) (2 : Int))))
     (IntKind.i64.wrap ((1 : Int) + nextR l (nextN l (0 : Int)) (4 : Int))) l_1) !=
     joinU
     (splitL
     (IntKind.u32.wrap (IntKind.i64.wrap ((1 : Int) + nextR l (0 : Int) (2 : Int))))
     (IntKind.i64.wrap ((1 : Int) + nextR l (nextN l (0 : Int)) (4 : Int))) l_1))
     (post (AV.bool false) none)
     (br
     ((joinR
     (splitL
     (IntKind.u32.wrap
     (IntKind.i64.wrap ((1 : Int) + nextR l (0 : Int) (2 : Int))))
     (IntKind.i64.wrap ((1 : Int) + nextR l (nextN l (0 : Int)) (4 : Int)))
     l_1)).2 !=
     (joinR
     (splitL
     (IntKind.u32.wrap
     (IntKind.i64.wrap ((1 : Int) + nextR l (0 : Int) (2 : Int))))
     (IntKind.i64.wrap ((1 : Int) + nextR l (nextN l (0 : Int)) (4 : Int)))
     l_1)).2)
     (post (AV.bool false) none)
     (br
     (joinC
     (splitL
     (IntKind.u32.wrap
     (IntKind.i64.wrap ((1 : Int) + nextR l (0 : Int) (2 : Int))))
     (IntKind.i64.wrap ((1 : Int) + nextR l (nextN l (0 : Int)) (4 : Int)))
     l_1) !=
     joinC
     (splitL
     (IntKind.u32.wrap
     (IntKind.i64.wrap ((1 : Int) + nextR l (0 : Int) (2 : Int))))
     (IntKind.i64.wrap ((1 : Int) + nextR l (nextN l (0 : Int)) (4 : Int))) l_1))
     (post (AV.bool false) none)
     (br
     (!strEq
     (joinR
     (splitL
     (IntKind.u32.wrap
     (IntKind.i64.wrap ((1 : Int) + nextR l (0 : Int) (2 : Int))))
     (IntKind.i64.wrap ((1 : Int) + nextR l (nextN l (0 : Int)) (4 : Int)))
     l_1)).1
     (joinR
     (splitL
     (IntKind.u32.wrap
     (IntKind.i64.wrap ((1 : Int) + nextR l (0 : Int) (2 : Int))))
     (IntKind.i64.wrap ((1 : Int) + nextR l (nextN l (0 : Int)) (4 : Int)))
     l_1)).1)
     (post (AV.bool false) none)
     (br
     (joinU
     (splitL
     (IntKind.u32.wrap
     (IntKind.i64.wrap ((1 : Int) + nextR l (0 : Int) (2 : Int))))
     (IntKind.i64.wrap ((1 : Int) + nextR l (nextN l (0 : Int)) (4 : Int)))
     l_1) !=
     joinU
     (splitL
     (IntKind.u32.wrap
     (IntKind.i64.wrap ((1 : Int) + nextR l (0 : Int) (2 : Int))))
     (IntKind.i64.wrap ((1 : Int) + nextR l (nextN l (0 : Int)) (4 : Int)))
     l_1))
     (post (AV.bool false) none)
     (br
     ((joinR
     (splitL
     (IntKind.u32.wrap
     (IntKind.i64.wrap ((1 : Int) + nextR l (0 : Int) (2 : Int))))
     (IntKind.i64.wrap
     ((1 : Int) + nextR l (nextN l (0 : Int)) (4 : Int)))
     l_1)).2 !=
     (joinR
     (splitL
     (IntKind.u32.wrap
     (IntKind.i64.wrap ((1 : Int) + nextR l (0 : Int) (2 : Int))))
     (IntKind.i64.wrap
     ((1 : Int) + nextR l (nextN l (0 : Int)) (4 : Int)))
     l_1)).2)
     (post (AV.bool false) none) (post (AV.bool true) none)))))))))))))))) ∧
     post (AV.bool true) none) := by kernel_rfl
theorem q5_3 (seed size tot i : Int) (l : List Int) (ps : List Rec) (k : Out → AS → Prop) : stepL c5_0 kp5_3 tr5_3 (loopAt Proofs.Try.f5 3) ⟨[(0, .rs false 0 ps), (1, .ints false .i64 l), (2, .int .i64 seed), (3, .int .i64 size), (9, .int .i64 tot), (10, .int .i64 i)], []⟩ k = (br (decide (i < @Nat.cast Int _ ps.length))
     (chk (inB i ps.length)
     (br
     (decide
     (IntKind.i64.wrap (tot + imin (@Nat.cast Int _ (ps.getD i.toNat default).6.length) (9000 : Int)) > (9000 : Int)))
     (k Out.ret (AS.mk [((8 : Nat), AV.bool true)] []))
     (br (decide (i > (90 : Int))) (k Out.ret (AS.mk [((8 : Nat), AV.bool true)] []))
     (k Out.normal
     (AS.mk
     [((0 : Nat), AV.rs false (0 : Nat) ps), ((1 : Nat), AV.ints false IntKind.i64 l),
     ((2 : Nat), AV.int IntKind.i64 seed), ((3 : Nat), AV.int IntKind.i64 size),
     ((9 : Nat),
     AV.int IntKind.i64
     (IntKind.i64.wrap (tot + imin (@Nat.cast Int _ (ps.getD i.toNat default).6.length) (9000 : Int)))),
     ((10 : Nat), AV.int IntKind.i64 (IntKind.i64.wrap (i + (1 : Int))))]
     [])))))
     (k (Out.exit (0 : Nat))
     (AS.mk
     [((0 : Nat), AV.rs false (0 : Nat) ps), ((1 : Nat), AV.ints false IntKind.i64 l),
     ((2 : Nat), AV.int IntKind.i64 seed), ((3 : Nat), AV.int IntKind.i64 size)]
     []))) := by kernel_rfl

theorem i5_3 (k : Out → AS → Prop) (fuel : Nat) : ∀ (seed size tot i : Int) (l : List Int) (ps : List Rec), (100 - i).toNat < fuel → (0 ≤ i ∧ i ≤ 91 ∧ 0 ≤ tot ∧ tot ≤ 9000) → (k (.exit 0) ⟨[(0, .rs false 0 ps), (1, .ints false .i64 l), (2, .int .i64 seed), (3, .int .i64 size)], []⟩ ∧ k .ret ⟨[(8, .bool true)], []⟩) → iterL (stepL c5_0 kp5_3 tr5_3 (loopAt Proofs.Try.f5 3)) k fuel ⟨[(0, .rs false 0 ps), (1, .ints false .i64 l), (2, .int .i64 seed), (3, .int .i64 size), (9, .int .i64 tot), (10, .int .i64 i)], []⟩ := by
  induction fuel with
  | zero => intro seed size tot i l ps hm; omega
  | succ fuel ih =>
    intro seed size tot i l ps hm hp hk
    simp only [iterL]
    rw [q5_3]
    dsimp only
    obtain ⟨p1, p2, p3, p4⟩ := hp
    obtain ⟨hk1, hk2⟩ := hk
    refine br_dec (fun hc => ?_) (fun hc => hk1)
    have hm := imin_le (ps.getD i.toNat default).s.length 9000 (by omega)
    rw [wrap_i64 (n := tot + _) (by omega) (by omega), wrap_i64 (n := i + 1) (by omega) (by omega)]
    refine chk_inB (by omega) (by omega) (br_dec (fun _ => hk2) (fun h1 => br_dec (fun _ => hk2) (fun h2 => ?_)))
    exact ih _ _ _ _ _ _ (by omega) ⟨by omega, by omega, by omega, by omega⟩ ⟨hk1, hk2⟩
theorem l5_3 : ∀ s k, L5_3 s k → Tri Proofs.Try.prog 207 (.loop (loopAt Proofs.Try.f5 3)) s k := by
  intro s k h
  unfold L5_3 at h
  split at h
  · obtain ⟨h1, h2⟩ := chk_iff.1 h
    exact iter_ok (c := c5_0) gam5_ok (l := u5) a5 rfl mixed_ok (by kernel_rfl) (ls := []) rfl (.inl rfl) trivial (kps := kp5_3) (tr := tr5_3) (_) (i5_3 k _ _ _ _ _ _ _ (Nat.lt_succ_self _) (of_decide_eq_true h1) h2)
  · exact h.elim
end Go.Proofs.Ytokeanadhihlfaa.V
