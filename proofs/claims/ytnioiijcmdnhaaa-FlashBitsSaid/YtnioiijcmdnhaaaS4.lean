import Derived.Test.YtnioiijcmdnhaaaPlans
import Derived.Test.YtnioiijcmdnhaaaVNum
import Derived.Test.YtnioiijcmdnhaaaProg
import Derived.Test.YtnioiijcmdnhaaaS0
import Derived.Test.YtnioiijcmdnhaaaS1
import Derived.Test.YtnioiijcmdnhaaaS2
import Derived.Test.YtnioiijcmdnhaaaS3
import Derived.KernelRfl
set_option linter.all false
set_option maxHeartbeats 1000000
namespace Go.Proofs.Ytnioiijcmdnhaaa.V
open Go
def pm28 : Pm := ⟨[flS, .s, .s, .s, .f], .no, [flS, .s, .s]⟩
def u28 : List (Nat × Tr) := [(25, S25), (29, S29)]
theorem a28 : AllKeep Proofs.Try.prog u28 := ⟨k25, k29, trivial⟩

def kp28_7 : List (Loc × Keep) := [(.t 2, .shp .s), (.t 3, .shp .s), (.t 4, .shp .f), (.t 10, .ptr), (.t 13, .shp .s), (.t 14, .ptr), (.t 15, .ptr), (.t 39, .ptr), (.t 40, .shp .s), (.t 41, .shp .s), (.c 14 1, .own 30 (.li 5 .u8))]
def tr28_7 : Trim := .some [2, 3, 10, 13, 14] [10, 14, 30] [] []
def L28_7 : LTr
  | ⟨[(2, .int .i64 n), (3, .int .i64 bud), (4, .fn 29 (some b)), (10, .ptr 10 0 0), (13, .int .i64 er), (14, .ptr 14 0 0), (15, .own 30 o m), (39, .own 30 o2 m2), (40, .int .i64 len), (41, .int .i64 i)], [(10, .box 24 [.int .i64 0, .nil]), (14, .box 24 [.int .i64 z, .ownf 30]), (30, .lini 5 .u8 M)]⟩, k => chk (decide (0 ≤ i ∧ i ≤ m ∧ len = m ∧ o2 = o ∧ m2 = m ∧ o + m ≤ M.length ∧ M.length ≤ 65536 ∧ m ≤ b.length)) (k (.exit 0) ⟨[(2, .int .i64 n), (3, .int .i64 bud), (10, .ptr 10 0 0), (13, .int .i64 er), (14, .ptr 14 0 0)], [(10, .box 24 [.int .i64 0, .nil]), (14, .box 24 [.int .i64 z, .ownf 30]), (30, .lini 5 .u8 (updF (andG b) M o i.toNat (m - i.toNat)))]⟩)
  | _, _ => False
def c28_0 : Cfg := { n := 62, Γ := Gam, C := ofL u28, pm := pmL [(25, pm25), (29, pm29)], plan := plan28, L := lpL [], unroll := nmL [], keep := kpL [(7, kp28_7)] }
def c28 : Cfg := { n := 62, Γ := Gam, C := ofL u28, pm := pmL [(25, pm25), (29, pm29)], plan := plan28, L := lpL [(7, L28_7)], unroll := nmL [], keep := kpL [(7, kp28_7)] }
def S28 : Tr
  | [.agg [.int .i64 z, .ints false .u8 L], .int .i64 o, .int .i64 n, .int .i64 bud, .fn 29 (some b)], none, post => chk (decide (0 ≤ o ∧ 0 ≤ n ∧ o + n ≤ L.length ∧ L.length ≤ 65536 ∧ n ≤ b.length)) (post (resF z (chg (andG b) L o.toNat n.toNat bud)).V none)
  | _, _, _ => False
theorem t28_0 (z : Int) (L : List Int) (o n bud : Int) (b : List Int) (post : AV → Option AV → Prop) : runF c28 pm28 Proofs.Try.f28 [.agg [.int .i64 z, .ints false .u8 L], .int .i64 o, .int .i64 n, .int .i64 bud, .fn 29 (some b)] none post = (br (decide (bud ≥ (0 : Int)))
     (br (decide (bud < n))
     (chk (decide (L.length ≤ (1000000 : Nat)))
     (chk (cutB L.length (some o) (some (IntKind.i64.wrap (o + bud))))
     (chk
     (decide
     ((0 : Int) ≤ (0 : Int) ∧
     (0 : Int) ≤ @Nat.cast Int _ ((IntKind.i64.wrap (o + bud)).toNat - o.toNat) ∧
     @Nat.cast Int _ ((IntKind.i64.wrap (o + bud)).toNat - o.toNat) =
     @Nat.cast Int _ ((IntKind.i64.wrap (o + bud)).toNat - o.toNat) ∧
     (0 : Nat) + o.toNat = (0 : Nat) + o.toNat ∧
     (IntKind.i64.wrap (o + bud)).toNat - o.toNat = (IntKind.i64.wrap (o + bud)).toNat - o.toNat ∧
     (0 : Nat) + o.toNat + ((IntKind.i64.wrap (o + bud)).toNat - o.toNat) ≤ L.length ∧
     L.length ≤ (65536 : Nat) ∧ (IntKind.i64.wrap (o + bud)).toNat - o.toNat ≤ b.length))
     (br (decide (bud ≥ (0 : Int)))
     (post
     (AV.tup
     [AV.agg
     [AV.int IntKind.i64 z,
     AV.ints false IntKind.u8
     (updF (andG b) L ((0 : Nat) + o.toNat) (0 : Nat)
     ((IntKind.i64.wrap (o + bud)).toNat - o.toNat - (0 : Nat)))],
     AV.int IntKind.i64 (IntKind.i64.wrap (bud - bud)), AV.int IntKind.i64 (16 : Int)])
     none)
     (post
     (AV.tup
     [AV.agg
     [AV.int IntKind.i64 z,
     AV.ints false IntKind.u8
     (updF (andG b) L ((0 : Nat) + o.toNat) (0 : Nat)
     ((IntKind.i64.wrap (o + bud)).toNat - o.toNat - (0 : Nat)))],
     AV.int IntKind.i64 bud, AV.int IntKind.i64 (16 : Int)])
     none)))) ∧
     ∀ (K : AS → Prop),
     chk (decide (L.length ≤ (1000000 : Nat)))
     (K
     (AS.mk
     [((0 : Nat), AV.agg [AV.int IntKind.i64 z, AV.ints false IntKind.u8 L]),
     ((1 : Nat), AV.int IntKind.i64 o), ((2 : Nat), AV.int IntKind.i64 bud),
     ((3 : Nat), AV.int IntKind.i64 bud), ((4 : Nat), AV.fn (29 : Nat) (some b)),
     ((5 : Nat), AV.ptr (5 : Nat) (0 : Nat) (0 : Nat)),
     ((10 : Nat), AV.ptr (10 : Nat) (0 : Nat) (0 : Nat)), ((11 : Nat), AV.int IntKind.i64 (0 : Int)),
     ((12 : Nat), AV.int IntKind.i64 (0 : Int)), ((13 : Nat), AV.int IntKind.i64 (16 : Int)),
     ((14 : Nat), AV.ptr (14 : Nat) (0 : Nat) (0 : Nat)), ((18 : Nat), AV.int IntKind.i64 bud),
     ((19 : Nat), AV.bool (decide (bud ≥ (0 : Int)))), ((20 : Nat), AV.bool true),
     ((21 : Nat), AV.int IntKind.i64 bud), ((22 : Nat), AV.int IntKind.i64 n),
     ((23 : Nat), AV.bool (decide (bud < n))), ((24 : Nat), AV.bool true),
     ((25 : Nat), AV.int IntKind.i64 bud), ((26 : Nat), AV.ptr (5 : Nat) (0 : Nat) (0 : Nat)),
     ((27 : Nat), AV.int IntKind.i64 z), ((28 : Nat), AV.ptr (5 : Nat) (0 : Nat) (1 : Nat)),
     ((29 : Nat), AV.ints false IntKind.u8 L), ((30 : Nat), AV.ownf (30 : Nat)),
     ((31 : Nat), AV.agg [AV.int IntKind.i64 z, AV.ownf (30 : Nat)])]
     [((5 : Nat), AV.box (24 : Nat) [AV.int IntKind.i64 z, AV.ints false IntKind.u8 L]),
     ((10 : Nat), AV.box (24 : Nat) [AV.int IntKind.i64 (0 : Int), AV.nil]),
     ((14 : Nat), AV.box (24 : Nat) [AV.int IntKind.i64 z, AV.ownf (30 : Nat)]),
     ((30 : Nat), AV.lini (5 : Nat) IntKind.u8 L)])) →
     chk (decide (L.length ≤ (1000000 : Nat)))
     (K
     (AS.mk
     [((0 : Nat), AV.agg [AV.int IntKind.i64 z, AV.ints false IntKind.u8 L]),
     ((1 : Nat), AV.int IntKind.i64 o), ((2 : Nat), AV.int IntKind.i64 bud),
     ((3 : Nat), AV.int IntKind.i64 bud), ((4 : Nat), AV.fn (29 : Nat) (some b)),
     ((5 : Nat), AV.ptr (5 : Nat) (0 : Nat) (0 : Nat)),
     ((10 : Nat), AV.ptr (10 : Nat) (0 : Nat) (0 : Nat)), ((11 : Nat), AV.int IntKind.i64 (0 : Int)),
     ((12 : Nat), AV.int IntKind.i64 (0 : Int)), ((13 : Nat), AV.int IntKind.i64 (16 : Int)),
     ((14 : Nat), AV.ptr (14 : Nat) (0 : Nat) (0 : Nat)), ((18 : Nat), AV.int IntKind.i64 bud),
     ((19 : Nat), AV.bool (decide (bud ≥ (0 : Int)))), ((20 : Nat), AV.bool true),
     ((21 : Nat), AV.int IntKind.i64 bud), ((22 : Nat), AV.int IntKind.i64 n),
     ((23 : Nat), AV.bool (decide (bud < n))), ((24 : Nat), AV.bool true),
     ((25 : Nat), AV.int IntKind.i64 bud), ((26 : Nat), AV.ptr (5 : Nat) (0 : Nat) (0 : Nat)),
     ((27 : Nat), AV.int IntKind.i64 z), ((28 : Nat), AV.ptr (5 : Nat) (0 : Nat) (1 : Nat)),
     ((29 : Nat), AV.ints false IntKind.u8 L), ((30 : Nat), AV.ownf (30 : Nat)),
     ((31 : Nat), AV.agg [AV.int IntKind.i64 z, AV.ownf (30 : Nat)])]
     [((5 : Nat), AV.box (24 : Nat) [AV.int IntKind.i64 z, AV.ints false IntKind.u8 L]),
     ((10 : Nat), AV.box (24 : Nat) [AV.int IntKind.i64 (0 : Int), AV.nil]),
     ((14 : Nat), AV.box (24 : Nat) [AV.int IntKind.i64 z, AV.ownf (30 : Nat)]),
     ((30 : Nat), AV.lini (5 : Nat) IntKind.u8 L)])))
     (chk (decide (L.length ≤ (1000000 : Nat)))
     (chk (cutB L.length (some o) (some (IntKind.i64.wrap (o + n))))
     (chk
     (decide
     ((0 : Int) ≤ (0 : Int) ∧
     (0 : Int) ≤ @Nat.cast Int _ ((IntKind.i64.wrap (o + n)).toNat - o.toNat) ∧
     @Nat.cast Int _ ((IntKind.i64.wrap (o + n)).toNat - o.toNat) =
     @Nat.cast Int _ ((IntKind.i64.wrap (o + n)).toNat - o.toNat) ∧
     (0 : Nat) + o.toNat = (0 : Nat) + o.toNat ∧
     (IntKind.i64.wrap (o + n)).toNat - o.toNat = (IntKind.i64.wrap (o + n)).toNat - o.toNat ∧
     (0 : Nat) + o.toNat + ((IntKind.i64.wrap (o + n)).toNat - o.toNat) ≤ L.length ∧
     L.length ≤ (65536 : Nat) ∧ (IntKind.i64.wrap (o + n)).toNat - o.toNat ≤ b.length))
     (br (decide (bud ≥ (0 : Int)))
     (post
     (AV.tup
     [AV.agg
     [AV.int IntKind.i64 z,
     AV.ints false IntKind.u8
     (updF (andG b) L ((0 : Nat) + o.toNat) (0 : Nat)
     ((IntKind.i64.wrap (o + n)).toNat - o.toNat - (0 : Nat)))],
     AV.int IntKind.i64 (IntKind.i64.wrap (bud - n)), AV.int IntKind.i64 (0 : Int)])
     none)
     (post
     (AV.tup
     [AV.agg
     [AV.int IntKind.i64 z,
     AV.ints false IntKind.u8
     (updF (andG b) L ((0 : Nat) + o.toNat) (0 : Nat)
     ((IntKind.i64.wrap (o + n)).toNat - o.toNat - (0 : Nat)))],
     AV.int IntKind.i64 bud, AV.int IntKind.i64 (0 : Int)])
     none)))) ∧
     ∀ (K : AS → Prop),
     chk (decide (L.length ≤ (1000000 : Nat)))
     (K
     (AS.mk
     [((0 : Nat), AV.agg [AV.int IntKind.i64 z, AV.ints false IntKind.u8 L]),
     ((1 : Nat), AV.int IntKind.i64 o), ((2 : Nat), AV.int IntKind.i64 n),
     ((3 : Nat), AV.int IntKind.i64 bud), ((4 : Nat), AV.fn (29 : Nat) (some b)),
     ((5 : Nat), AV.ptr (5 : Nat) (0 : Nat) (0 : Nat)),
     ((10 : Nat), AV.ptr (10 : Nat) (0 : Nat) (0 : Nat)), ((11 : Nat), AV.int IntKind.i64 (0 : Int)),
     ((12 : Nat), AV.int IntKind.i64 (0 : Int)), ((13 : Nat), AV.int IntKind.i64 (0 : Int)),
     ((14 : Nat), AV.ptr (14 : Nat) (0 : Nat) (0 : Nat)), ((18 : Nat), AV.int IntKind.i64 bud),
     ((19 : Nat), AV.bool (decide (bud ≥ (0 : Int)))), ((20 : Nat), AV.bool true),
     ((21 : Nat), AV.int IntKind.i64 bud), ((22 : Nat), AV.int IntKind.i64 n),
     ((23 : Nat), AV.bool (decide (bud < n))), ((24 : Nat), AV.bool false),
     ((26 : Nat), AV.ptr (5 : Nat) (0 : Nat) (0 : Nat)), ((27 : Nat), AV.int IntKind.i64 z),
     ((28 : Nat), AV.ptr (5 : Nat) (0 : Nat) (1 : Nat)), ((29 : Nat), AV.ints false IntKind.u8 L),
     ((30 : Nat), AV.ownf (30 : Nat)), ((31 : Nat), AV.agg [AV.int IntKind.i64 z, AV.ownf (30 : Nat)])]
     [((5 : Nat), AV.box (24 : Nat) [AV.int IntKind.i64 z, AV.ints false IntKind.u8 L]),
     ((10 : Nat), AV.box (24 : Nat) [AV.int IntKind.i64 (0 : Int), AV.nil]),
     ((14 : Nat), AV.box (24 : Nat) [AV.int IntKind.i64 z, AV.ownf (30 : Nat)]),
     ((30 : Nat), AV.lini (5 : Nat) IntKind.u8 L)])) →
     chk (decide (L.length ≤ (1000000 : Nat)))
     (K
     (AS.mk
     [((0 : Nat), AV.agg [AV.int IntKind.i64 z, AV.ints false IntKind.u8 L]),
     ((1 : Nat), AV.int IntKind.i64 o), ((2 : Nat), AV.int IntKind.i64 n),
     ((3 : Nat), AV.int IntKind.i64 bud), ((4 : Nat), AV.fn (29 : Nat) (some b)),
     ((5 : Nat), AV.ptr (5 : Nat) (0 : Nat) (0 : Nat)),
     ((10 : Nat), AV.ptr (10 : Nat) (0 : Nat) (0 : Nat)), ((11 : Nat), AV.int IntKind.i64 (0 : Int)),
     ((12 : Nat), AV.int IntKind.i64 (0 : Int)), ((13 : Nat), AV.int IntKind.i64 (0 : Int)),
     ((14 : Nat), AV.ptr (14 : Nat) (0 : Nat) (0 : Nat)), ((18 : Nat), AV.int IntKind.i64 bud),
     ((19 : Nat), AV.bool (decide (bud ≥ (0 : Int)))), ((20 : Nat), AV.bool true),
     ((21 : Nat), AV.int IntKind.i64 bud), ((22 : Nat), AV.int IntKind.i64 n),
     ((23 : Nat), AV.bool (decide (bud < n))), ((24 : Nat), AV.bool false),
     ((26 : Nat), AV.ptr (5 : Nat) (0 : Nat) (0 : Nat)), ((27 : Nat), AV.int IntKind.i64 z),
     ((28 : Nat), AV.ptr (5 : Nat) (0 : Nat) (1 : Nat)), ((29 : Nat), AV.ints false IntKind.u8 L),
     ((30 : Nat), AV.ownf (30 : Nat)), ((31 : Nat), AV.agg [AV.int IntKind.i64 z, AV.ownf (30 : Nat)])]
     [((5 : Nat), AV.box (24 : Nat) [AV.int IntKind.i64 z, AV.ints false IntKind.u8 L]),
     ((10 : Nat), AV.box (24 : Nat) [AV.int IntKind.i64 (0 : Int), AV.nil]),
     ((14 : Nat), AV.box (24 : Nat) [AV.int IntKind.i64 z, AV.ownf (30 : Nat)]),
     ((30 : Nat), AV.lini (5 : Nat) IntKind.u8 L)]))))
     (chk (decide (L.length ≤ (1000000 : Nat)))
     (chk (cutB L.length (some o) (some (IntKind.i64.wrap (o + n))))
     (chk
     (decide
     ((0 : Int) ≤ (0 : Int) ∧
     (0 : Int) ≤ @Nat.cast Int _ ((IntKind.i64.wrap (o + n)).toNat - o.toNat) ∧
     @Nat.cast Int _ ((IntKind.i64.wrap (o + n)).toNat - o.toNat) =
     @Nat.cast Int _ ((IntKind.i64.wrap (o + n)).toNat - o.toNat) ∧
     (0 : Nat) + o.toNat = (0 : Nat) + o.toNat ∧
     (IntKind.i64.wrap (o + n)).toNat - o.toNat = (IntKind.i64.wrap (o + n)).toNat - o.toNat ∧
     (0 : Nat) + o.toNat + ((IntKind.i64.wrap (o + n)).toNat - o.toNat) ≤ L.length ∧
     L.length ≤ (65536 : Nat) ∧ (IntKind.i64.wrap (o + n)).toNat - o.toNat ≤ b.length))
     (br (decide (bud ≥ (0 : Int)))
     (post
     (AV.tup
     [AV.agg
     [AV.int IntKind.i64 z,
     AV.ints false IntKind.u8
     (updF (andG b) L ((0 : Nat) + o.toNat) (0 : Nat)
     ((IntKind.i64.wrap (o + n)).toNat - o.toNat - (0 : Nat)))],
     AV.int IntKind.i64 (IntKind.i64.wrap (bud - n)), AV.int IntKind.i64 (0 : Int)])
     none)
     (post
     (AV.tup
     [AV.agg
     [AV.int IntKind.i64 z,
     AV.ints false IntKind.u8
     (updF (andG b) L ((0 : Nat) + o.toNat) (0 : Nat)
     ((IntKind.i64.wrap (o + n)).toNat - o.toNat - (0 : Nat)))],
     AV.int IntKind.i64 bud, AV.int IntKind.i64 (0 : Int)])
     none)))) ∧
     ∀ (K : AS → Prop),
     chk (decide (L.length ≤ (1000000 : Nat)))
     (K
     (AS.mk
     [((0 : Nat), AV.agg [AV.int IntKind.i64 z, AV.ints false IntKind.u8 L]),
     ((1 : Nat), AV.int IntKind.i64 o), ((2 : Nat), AV.int IntKind.i64 n),
     ((3 : Nat), AV.int IntKind.i64 bud), ((4 : Nat), AV.fn (29 : Nat) (some b)),
     ((5 : Nat), AV.ptr (5 : Nat) (0 : Nat) (0 : Nat)), ((10 : Nat), AV.ptr (10 : Nat) (0 : Nat) (0 : Nat)),
     ((11 : Nat), AV.int IntKind.i64 (0 : Int)), ((12 : Nat), AV.int IntKind.i64 (0 : Int)),
     ((13 : Nat), AV.int IntKind.i64 (0 : Int)), ((14 : Nat), AV.ptr (14 : Nat) (0 : Nat) (0 : Nat)),
     ((18 : Nat), AV.int IntKind.i64 bud), ((19 : Nat), AV.bool (decide (bud ≥ (0 : Int)))),
     ((20 : Nat), AV.bool false), ((21 : Nat), AV.undef), ((22 : Nat), AV.undef), ((23 : Nat), AV.undef),
     ((24 : Nat), AV.bool false), ((26 : Nat), AV.ptr (5 : Nat) (0 : Nat) (0 : Nat)),
     ((27 : Nat), AV.int IntKind.i64 z), ((28 : Nat), AV.ptr (5 : Nat) (0 : Nat) (1 : Nat)),
     ((29 : Nat), AV.ints false IntKind.u8 L), ((30 : Nat), AV.ownf (30 : Nat)),
     ((31 : Nat), AV.agg [AV.int IntKind.i64 z, AV.ownf (30 : Nat)])]
     [((5 : Nat), AV.box (24 : Nat) [AV.int IntKind.i64 z, AV.ints false IntKind.u8 L]),
     ((10 : Nat), AV.box (24 : Nat) [AV.int IntKind.i64 (0 : Int), AV.nil]),
     ((14 : Nat), AV.box (24 : Nat) [AV.int IntKind.i64 z, AV.ownf (30 : Nat)]),
     ((30 : Nat), AV.lini (5 : Nat) IntKind.u8 L)])) →
     chk (decide (L.length ≤ (1000000 : Nat)))
     (K
     (AS.mk
     [((0 : Nat), AV.agg [AV.int IntKind.i64 z, AV.ints false IntKind.u8 L]),
     ((1 : Nat), AV.int IntKind.i64 o), ((2 : Nat), AV.int IntKind.i64 n),
     ((3 : Nat), AV.int IntKind.i64 bud), ((4 : Nat), AV.fn (29 : Nat) (some b)),
     ((5 : Nat), AV.ptr (5 : Nat) (0 : Nat) (0 : Nat)), ((10 : Nat), AV.ptr (10 : Nat) (0 : Nat) (0 : Nat)),
     ((11 : Nat), AV.int IntKind.i64 (0 : Int)), ((12 : Nat), AV.int IntKind.i64 (0 : Int)),
     ((13 : Nat), AV.int IntKind.i64 (0 : Int)), ((14 : Nat), AV.ptr (14 : Nat) (0 : Nat) (0 : Nat)),
     ((18 : Nat), AV.int IntKind.i64 bud), ((19 : Nat), AV.bool (decide (bud ≥ (0 : Int)))),
     ((20 : Nat), AV.bool false), ((21 : Nat), AV.undef), ((22 : Nat), AV.undef), ((23 : Nat), AV.undef),
     ((24 : Nat), AV.bool false), ((26 : Nat), AV.ptr (5 : Nat) (0 : Nat) (0 : Nat)),
     ((27 : Nat), AV.int IntKind.i64 z), ((28 : Nat), AV.ptr (5 : Nat) (0 : Nat) (1 : Nat)),
     ((29 : Nat), AV.ints false IntKind.u8 L), ((30 : Nat), AV.ownf (30 : Nat)),
     ((31 : Nat), AV.agg [AV.int IntKind.i64 z, AV.ownf (30 : Nat)])]
     [((5 : Nat), AV.box (24 : Nat) [AV.int IntKind.i64 z, AV.ints false IntKind.u8 L]),
     ((10 : Nat), AV.box (24 : Nat) [AV.int IntKind.i64 (0 : Int), AV.nil]),
     ((14 : Nat), AV.box (24 : Nat) [AV.int IntKind.i64 z, AV.ownf (30 : Nat)]),
     ((30 : Nat), AV.lini (5 : Nat) IntKind.u8 L)])))) := by kernel_rfl
theorem q28_7 (n bud er len i z : Int) (o m o2 m2 : Nat) (M : List Int) (b : List Int) (k : Out → AS → Prop) : stepL c28_0 kp28_7 tr28_7 (loopAt Proofs.Try.f28 7) ⟨[(2, .int .i64 n), (3, .int .i64 bud), (4, .fn 29 (some b)), (10, .ptr 10 0 0), (13, .int .i64 er), (14, .ptr 14 0 0), (15, .own 30 o m), (39, .own 30 o2 m2), (40, .int .i64 len), (41, .int .i64 i)], [(10, .box 24 [.int .i64 0, .nil]), (14, .box 24 [.int .i64 z, .ownf 30]), (30, .lini 5 .u8 M)]⟩ k = (br (decide (i < len))
     (chk (inB i m2)
     (chk (decide (o2 + i.toNat < M.length))
     (chk (decide ((0 : Int) ≤ i ∧ i < @Nat.cast Int _ b.length))
     (chk (inB i m)
     (chk (decide (o + i.toNat < M.length))
     (k Out.normal
     (AS.mk
     [((2 : Nat), AV.int IntKind.i64 n), ((3 : Nat), AV.int IntKind.i64 bud),
     ((4 : Nat), AV.fn (29 : Nat) (some b)), ((10 : Nat), AV.ptr (10 : Nat) (0 : Nat) (0 : Nat)),
     ((13 : Nat), AV.int IntKind.i64 er), ((14 : Nat), AV.ptr (14 : Nat) (0 : Nat) (0 : Nat)),
     ((15 : Nat), AV.own (30 : Nat) o m), ((39 : Nat), AV.own (30 : Nat) o2 m2),
     ((40 : Nat), AV.int IntKind.i64 len),
     ((41 : Nat), AV.int IntKind.i64 (IntKind.i64.wrap (i + (1 : Int))))]
     [((10 : Nat), AV.box (24 : Nat) [AV.int IntKind.i64 (0 : Int), AV.nil]),
     ((14 : Nat), AV.box (24 : Nat) [AV.int IntKind.i64 z, AV.ownf (30 : Nat)]),
     ((30 : Nat),
     AV.lini (5 : Nat) IntKind.u8
     (M.set (o + i.toNat) (andG b i.toNat (M.getD (o2 + i.toNat) (0 : Int)))))])))))))
     (k (Out.exit (0 : Nat))
     (AS.mk
     [((2 : Nat), AV.int IntKind.i64 n), ((3 : Nat), AV.int IntKind.i64 bud),
     ((10 : Nat), AV.ptr (10 : Nat) (0 : Nat) (0 : Nat)), ((13 : Nat), AV.int IntKind.i64 er),
     ((14 : Nat), AV.ptr (14 : Nat) (0 : Nat) (0 : Nat))]
     [((10 : Nat), AV.box (24 : Nat) [AV.int IntKind.i64 (0 : Int), AV.nil]),
     ((14 : Nat), AV.box (24 : Nat) [AV.int IntKind.i64 z, AV.ownf (30 : Nat)]),
     ((30 : Nat), AV.lini (5 : Nat) IntKind.u8 M)]))) := by kernel_rfl

theorem i28_7 (k : Out → AS → Prop) (fuel : Nat) : ∀ (n bud er len i z : Int) (o m o2 m2 : Nat) (M : List Int) (b : List Int), (m - i).toNat < fuel → (0 ≤ i ∧ i ≤ m ∧ len = m ∧ o2 = o ∧ m2 = m ∧ o + m ≤ M.length ∧ M.length ≤ 65536 ∧ m ≤ b.length) → (k (.exit 0) ⟨[(2, .int .i64 n), (3, .int .i64 bud), (10, .ptr 10 0 0), (13, .int .i64 er), (14, .ptr 14 0 0)], [(10, .box 24 [.int .i64 0, .nil]), (14, .box 24 [.int .i64 z, .ownf 30]), (30, .lini 5 .u8 (updF (andG b) M o i.toNat (m - i.toNat)))]⟩) → iterL (stepL c28_0 kp28_7 tr28_7 (loopAt Proofs.Try.f28 7)) k fuel ⟨[(2, .int .i64 n), (3, .int .i64 bud), (4, .fn 29 (some b)), (10, .ptr 10 0 0), (13, .int .i64 er), (14, .ptr 14 0 0), (15, .own 30 o m), (39, .own 30 o2 m2), (40, .int .i64 len), (41, .int .i64 i)], [(10, .box 24 [.int .i64 0, .nil]), (14, .box 24 [.int .i64 z, .ownf 30]), (30, .lini 5 .u8 M)]⟩ := by
  induction fuel with
  | zero => intro n bud er len i z o m o2 m2 M b hm; omega
  | succ fuel ih =>
    intro n bud er len i z o m o2 m2 M b hm hp hk
    simp only [iterL]
    rw [q28_7]
    dsimp only
    obtain ⟨p1, p2, rfl, rfl, rfl, p6, p7, p8⟩ := hp
    refine br_dec (fun hc => ?_) (fun hc => k_of hk ?_)
    · rw [wrap_i64 (n := i + 1) (by omega) (by omega)]
      refine chk_inB (by omega) (by omega) (chk_dec (by omega) (chk_dec (by omega) (chk_inB (by omega) (by omega) (chk_dec (by omega) ?_))))
      refine ih _ _ _ _ _ _ _ _ _ _ _ _ (by omega) ⟨by omega, by omega, rfl, rfl, rfl, by rw [List.length_set]; omega, by rw [List.length_set]; omega, p8⟩ (k_of hk ?_)
      rw [show (i + 1).toNat = i.toNat + 1 by omega, show m2 - i.toNat = (m2 - (i.toNat + 1)) + 1 by omega]
      rfl
    · rw [show m2 - i.toNat = 0 by omega]
      rfl
theorem l28_7 : ∀ s k, L28_7 s k → Tri Proofs.Try.prog 62 (.loop (loopAt Proofs.Try.f28 7)) s k := by
  intro s k h
  unfold L28_7 at h
  split at h
  · obtain ⟨h1, h2⟩ := chk_iff.1 h
    exact iter_ok (c := c28_0) gam_ok (l := u28) a28 rfl mixed_ok (by kernel_rfl) (ls := []) rfl (.inl rfl) trivial (kps := kp28_7) (tr := tr28_7) (_) (i28_7 k _ _ _ _ _ _ _ _ _ _ _ _ _ (Nat.lt_succ_self _) (of_decide_eq_true h1) h2)
  · exact h.elim
theorem p28_0 (z : Int) (L : List Int) (o n bud : Int) (b : List Int) (post : AV → Option AV → Prop) (hin : InRL [.agg [.int .i64 z, .ints false .u8 L], .int .i64 o, .int .i64 n, .int .i64 bud, .fn 29 (some b)]) (hie : InRO none) (h : chk (decide (0 ≤ o ∧ 0 ≤ n ∧ o + n ≤ L.length ∧ L.length ≤ 65536 ∧ n ≤ b.length)) (post (resF z (chg (andG b) L o.toNat n.toNat bud)).V none)) : Ok (runF c28 pm28 Proofs.Try.f28 [.agg [.int .i64 z, .ints false .u8 L], .int .i64 o, .int .i64 n, .int .i64 bud, .fn 29 (some b)] none (post)) := by
  refine ⟨?_⟩
  rw [t28_0]
  obtain ⟨h1, h2⟩ := chk_iff.1 h
  have hq := of_decide_eq_true h1
  have hin' := hin
  simp only [InRL, InR] at hin'
  have hbr := in_i64.1 hin'.2.2.2.1
  have hc : decide (L.length ≤ 1000000) = true := decide_eq_true (by omega)
  simp only [hc, chk_true, imp_self, implies_true, and_true]
  refine br_dec (fun hb => br_dec (fun hb2 => ?_) (fun hb2 => ?_)) (fun hb => ?_)
  · rw [chg, chgR, if_pos (by omega)] at h2
    rw [wrap_i64 (n := o + bud) (by omega) (by omega), wrap_i64 (n := bud - bud) (by omega) (by omega)]
    refine chk_of (cut_both (by omega) (by omega) (by omega)) (chk_dec ⟨by omega, by omega, trivial, trivial, trivial, by omega, by omega, by omega⟩ (br_dec (fun _ => ?_) (fun hh => absurd hb hh)))
    rw [Nat.zero_add, show (o + bud).toNat - o.toNat - 0 = bud.toNat by omega, show bud - bud = 0 by omega]
    exact h2
  · rw [chg, chgR, if_neg (by omega), if_pos (by omega)] at h2
    rw [wrap_i64 (n := o + n) (by omega) (by omega), wrap_i64 (n := bud - n) (by omega) (by omega)]
    refine chk_of (cut_both (by omega) (by omega) (by omega)) (chk_dec ⟨by omega, by omega, trivial, trivial, trivial, by omega, by omega, by omega⟩ (br_dec (fun _ => ?_) (fun hh => absurd hb hh)))
    rw [Nat.zero_add, show (o + n).toNat - o.toNat - 0 = n.toNat - 0 by omega, show bud - n = bud - ((n.toNat : Int) - ((0 : Nat) : Int)) by omega]
    exact h2
  · rw [chg, chgR, if_neg (by omega), if_neg (by omega)] at h2
    rw [wrap_i64 (n := o + n) (by omega) (by omega)]
    refine chk_of (cut_both (by omega) (by omega) (by omega)) (chk_dec ⟨by omega, by omega, trivial, trivial, trivial, by omega, by omega, by omega⟩ (br_dec (fun hh => absurd hh hb) (fun _ => ?_)))
    rw [Nat.zero_add, show (o + n).toNat - o.toNat - 0 = n.toNat - 0 by omega]
    exact h2
theorem k28 : Keeps Proofs.Try.prog 28 S28 := by
  refine ⟨?_, Proofs.Try.f28, by kernel_rfl, by kernel_rfl, by kernel_rfl⟩
  intro args e post h
  unfold S28 at h
  split at h
  · refine Spec.inR fun hin hie => fun_ok' (c := c28) gam_ok (l := u28) a28 rfl mixed_ok (fn := Proofs.Try.f28) (show Proofs.Try.prog.funcs[28]? = some Proofs.Try.f28 by kernel_rfl) (by kernel_rfl) (ls := [(7, L28_7)]) rfl (.inr (by kernel_rfl)) ⟨l28_7, trivial⟩ (pm := pm28) (by simp [c28]) (by rintro ⟨t, l, h⟩; cases h) ?_
    exact p28_0 _ _ _ _ _ _ _ hin hie h
  · exact h.elim
def pm2800 : Pm := ⟨[flS, .s, .s, .s, .f], .no, [flS, .s, .s]⟩
def u2800 : List (Nat × Tr) := [(25, S25), (35, S35)]
theorem a2800 : AllKeep Proofs.Try.prog u2800 := ⟨k25, k35, trivial⟩

def kp2800_7 : List (Loc × Keep) := [(.t 2, .shp .s), (.t 3, .shp .s), (.t 4, .shp .f), (.t 10, .ptr), (.t 13, .shp .s), (.t 14, .ptr), (.t 15, .ptr), (.t 39, .ptr), (.t 40, .shp .s), (.t 41, .shp .s), (.c 14 1, .own 30 (.li 5 .u8))]
def tr2800_7 : Trim := .some [2, 3, 10, 13, 14] [10, 14, 30] [] []
def L2800_7 : LTr
  | ⟨[(2, .int .i64 n), (3, .int .i64 bud), (4, .fn 35 none), (10, .ptr 10 0 0), (13, .int .i64 er), (14, .ptr 14 0 0), (15, .own 30 o m), (39, .own 30 o2 m2), (40, .int .i64 len), (41, .int .i64 i)], [(10, .box 24 [.int .i64 0, .nil]), (14, .box 24 [.int .i64 z, .ownf 30]), (30, .lini 5 .u8 M)]⟩, k => chk (decide (0 ≤ i ∧ i ≤ m ∧ len = m ∧ o2 = o ∧ m2 = m ∧ o + m ≤ M.length ∧ M.length ≤ 65536)) (k (.exit 0) ⟨[(2, .int .i64 n), (3, .int .i64 bud), (10, .ptr 10 0 0), (13, .int .i64 er), (14, .ptr 14 0 0)], [(10, .box 24 [.int .i64 0, .nil]), (14, .box 24 [.int .i64 z, .ownf 30]), (30, .lini 5 .u8 (updF eraG M o i.toNat (m - i.toNat)))]⟩)
  | _, _ => False
def c2800_0 : Cfg := { n := 62, Γ := Gam, C := ofL u2800, pm := pmL [(25, pm25), (35, pm35)], plan := plan28, L := lpL [], unroll := nmL [], keep := kpL [(7, kp2800_7)] }
def c2800 : Cfg := { n := 62, Γ := Gam, C := ofL u2800, pm := pmL [(25, pm25), (35, pm35)], plan := plan28, L := lpL [(7, L2800_7)], unroll := nmL [], keep := kpL [(7, kp2800_7)] }
def S2800 : Tr
  | [.agg [.int .i64 z, .ints false .u8 L], .int .i64 o, .int .i64 n, .int .i64 bud, .fn 35 none], none, post => chk (decide (0 ≤ o ∧ 0 ≤ n ∧ o + n ≤ L.length ∧ L.length ≤ 65536)) (post (resF z (chg eraG L o.toNat n.toNat bud)).V none)
  | _, _, _ => False
theorem t2800_0 (z : Int) (L : List Int) (o n bud : Int) (post : AV → Option AV → Prop) : runF c2800 pm2800 Proofs.Try.f28 [.agg [.int .i64 z, .ints false .u8 L], .int .i64 o, .int .i64 n, .int .i64 bud, .fn 35 none] none post = (br (decide (bud ≥ (0 : Int)))
     (br (decide (bud < n))
     (chk (decide (L.length ≤ (1000000 : Nat)))
     (chk (cutB L.length (some o) (some (IntKind.i64.wrap (o + bud))))
     (chk
     (decide
     ((0 : Int) ≤ (0 : Int) ∧
     (0 : Int) ≤ @Nat.cast Int _ ((IntKind.i64.wrap (o + bud)).toNat - o.toNat) ∧
     @Nat.cast Int _ ((IntKind.i64.wrap (o + bud)).toNat - o.toNat) =
     @Nat.cast Int _ ((IntKind.i64.wrap (o + bud)).toNat - o.toNat) ∧
     (0 : Nat) + o.toNat = (0 : Nat) + o.toNat ∧
     (IntKind.i64.wrap (o + bud)).toNat - o.toNat = (IntKind.i64.wrap (o + bud)).toNat - o.toNat ∧
     (0 : Nat) + o.toNat + ((IntKind.i64.wrap (o + bud)).toNat - o.toNat) ≤ L.length ∧
     L.length ≤ (65536 : Nat)))
     (br (decide (bud ≥ (0 : Int)))
     (post
     (AV.tup
     [AV.agg
     [AV.int IntKind.i64 z,
     AV.ints false IntKind.u8
     (updF eraG L ((0 : Nat) + o.toNat) (0 : Nat)
     ((IntKind.i64.wrap (o + bud)).toNat - o.toNat - (0 : Nat)))],
     AV.int IntKind.i64 (IntKind.i64.wrap (bud - bud)), AV.int IntKind.i64 (16 : Int)])
     none)
     (post
     (AV.tup
     [AV.agg
     [AV.int IntKind.i64 z,
     AV.ints false IntKind.u8
     (updF eraG L ((0 : Nat) + o.toNat) (0 : Nat)
     ((IntKind.i64.wrap (o + bud)).toNat - o.toNat - (0 : Nat)))],
     AV.int IntKind.i64 bud, AV.int IntKind.i64 (16 : Int)])
     none)))) ∧
     ∀ (K : AS → Prop),
     chk (decide (L.length ≤ (1000000 : Nat)))
     (K
     (AS.mk
     [((0 : Nat), AV.agg [AV.int IntKind.i64 z, AV.ints false IntKind.u8 L]),
     ((1 : Nat), AV.int IntKind.i64 o), ((2 : Nat), AV.int IntKind.i64 bud),
     ((3 : Nat), AV.int IntKind.i64 bud), ((4 : Nat), AV.fn (35 : Nat) none),
     ((5 : Nat), AV.ptr (5 : Nat) (0 : Nat) (0 : Nat)),
     ((10 : Nat), AV.ptr (10 : Nat) (0 : Nat) (0 : Nat)), ((11 : Nat), AV.int IntKind.i64 (0 : Int)),
     ((12 : Nat), AV.int IntKind.i64 (0 : Int)), ((13 : Nat), AV.int IntKind.i64 (16 : Int)),
     ((14 : Nat), AV.ptr (14 : Nat) (0 : Nat) (0 : Nat)), ((18 : Nat), AV.int IntKind.i64 bud),
     ((19 : Nat), AV.bool (decide (bud ≥ (0 : Int)))), ((20 : Nat), AV.bool true),
     ((21 : Nat), AV.int IntKind.i64 bud), ((22 : Nat), AV.int IntKind.i64 n),
     ((23 : Nat), AV.bool (decide (bud < n))), ((24 : Nat), AV.bool true),
     ((25 : Nat), AV.int IntKind.i64 bud), ((26 : Nat), AV.ptr (5 : Nat) (0 : Nat) (0 : Nat)),
     ((27 : Nat), AV.int IntKind.i64 z), ((28 : Nat), AV.ptr (5 : Nat) (0 : Nat) (1 : Nat)),
     ((29 : Nat), AV.ints false IntKind.u8 L), ((30 : Nat), AV.ownf (30 : Nat)),
     ((31 : Nat), AV.agg [AV.int IntKind.i64 z, AV.ownf (30 : Nat)])]
     [((5 : Nat), AV.box (24 : Nat) [AV.int IntKind.i64 z, AV.ints false IntKind.u8 L]),
     ((10 : Nat), AV.box (24 : Nat) [AV.int IntKind.i64 (0 : Int), AV.nil]),
     ((14 : Nat), AV.box (24 : Nat) [AV.int IntKind.i64 z, AV.ownf (30 : Nat)]),
     ((30 : Nat), AV.lini (5 : Nat) IntKind.u8 L)])) →
     chk (decide (L.length ≤ (1000000 : Nat)))
     (K
     (AS.mk
     [((0 : Nat), AV.agg [AV.int IntKind.i64 z, AV.ints false IntKind.u8 L]),
     ((1 : Nat), AV.int IntKind.i64 o), ((2 : Nat), AV.int IntKind.i64 bud),
     ((3 : Nat), AV.int IntKind.i64 bud), ((4 : Nat), AV.fn (35 : Nat) none),
     ((5 : Nat), AV.ptr (5 : Nat) (0 : Nat) (0 : Nat)),
     ((10 : Nat), AV.ptr (10 : Nat) (0 : Nat) (0 : Nat)), ((11 : Nat), AV.int IntKind.i64 (0 : Int)),
     ((12 : Nat), AV.int IntKind.i64 (0 : Int)), ((13 : Nat), AV.int IntKind.i64 (16 : Int)),
     ((14 : Nat), AV.ptr (14 : Nat) (0 : Nat) (0 : Nat)), ((18 : Nat), AV.int IntKind.i64 bud),
     ((19 : Nat), AV.bool (decide (bud ≥ (0 : Int)))), ((20 : Nat), AV.bool true),
     ((21 : Nat), AV.int IntKind.i64 bud), ((22 : Nat), AV.int IntKind.i64 n),
     ((23 : Nat), AV.bool (decide (bud < n))), ((24 : Nat), AV.bool true),
     ((25 : Nat), AV.int IntKind.i64 bud), ((26 : Nat), AV.ptr (5 : Nat) (0 : Nat) (0 : Nat)),
     ((27 : Nat), AV.int IntKind.i64 z), ((28 : Nat), AV.ptr (5 : Nat) (0 : Nat) (1 : Nat)),
     ((29 : Nat), AV.ints false IntKind.u8 L), ((30 : Nat), AV.ownf (30 : Nat)),
     ((31 : Nat), AV.agg [AV.int IntKind.i64 z, AV.ownf (30 : Nat)])]
     [((5 : Nat), AV.box (24 : Nat) [AV.int IntKind.i64 z, AV.ints false IntKind.u8 L]),
     ((10 : Nat), AV.box (24 : Nat) [AV.int IntKind.i64 (0 : Int), AV.nil]),
     ((14 : Nat), AV.box (24 : Nat) [AV.int IntKind.i64 z, AV.ownf (30 : Nat)]),
     ((30 : Nat), AV.lini (5 : Nat) IntKind.u8 L)])))
     (chk (decide (L.length ≤ (1000000 : Nat)))
     (chk (cutB L.length (some o) (some (IntKind.i64.wrap (o + n))))
     (chk
     (decide
     ((0 : Int) ≤ (0 : Int) ∧
     (0 : Int) ≤ @Nat.cast Int _ ((IntKind.i64.wrap (o + n)).toNat - o.toNat) ∧
     @Nat.cast Int _ ((IntKind.i64.wrap (o + n)).toNat - o.toNat) =
     @Nat.cast Int _ ((IntKind.i64.wrap (o + n)).toNat - o.toNat) ∧
     (0 : Nat) + o.toNat = (0 : Nat) + o.toNat ∧
     (IntKind.i64.wrap (o + n)).toNat - o.toNat = (IntKind.i64.wrap (o + n)).toNat - o.toNat ∧
     (0 : Nat) + o.toNat + ((IntKind.i64.wrap (o + n)).toNat - o.toNat) ≤ L.length ∧
     L.length ≤ (65536 : Nat)))
     (br (decide (bud ≥ (0 : Int)))
     (post
     (AV.tup
     [AV.agg
     [AV.int IntKind.i64 z,
     AV.ints false IntKind.u8
     (updF eraG L ((0 : Nat) + o.toNat) (0 : Nat)
     ((IntKind.i64.wrap (o + n)).toNat - o.toNat - (0 : Nat)))],
     AV.int IntKind.i64 (IntKind.i64.wrap (bud - n)), AV.int IntKind.i64 (0 : Int)])
     none)
     (post
     (AV.tup
     [AV.agg
     [AV.int IntKind.i64 z,
     AV.ints false IntKind.u8
     (updF eraG L ((0 : Nat) + o.toNat) (0 : Nat)
     ((IntKind.i64.wrap (o + n)).toNat - o.toNat - (0 : Nat)))],
     AV.int IntKind.i64 bud, AV.int IntKind.i64 (0 : Int)])
     none)))) ∧
     ∀ (K : AS → Prop),
     chk (decide (L.length ≤ (1000000 : Nat)))
     (K
     (AS.mk
     [((0 : Nat), AV.agg [AV.int IntKind.i64 z, AV.ints false IntKind.u8 L]),
     ((1 : Nat), AV.int IntKind.i64 o), ((2 : Nat), AV.int IntKind.i64 n),
     ((3 : Nat), AV.int IntKind.i64 bud), ((4 : Nat), AV.fn (35 : Nat) none),
     ((5 : Nat), AV.ptr (5 : Nat) (0 : Nat) (0 : Nat)),
     ((10 : Nat), AV.ptr (10 : Nat) (0 : Nat) (0 : Nat)), ((11 : Nat), AV.int IntKind.i64 (0 : Int)),
     ((12 : Nat), AV.int IntKind.i64 (0 : Int)), ((13 : Nat), AV.int IntKind.i64 (0 : Int)),
     ((14 : Nat), AV.ptr (14 : Nat) (0 : Nat) (0 : Nat)), ((18 : Nat), AV.int IntKind.i64 bud),
     ((19 : Nat), AV.bool (decide (bud ≥ (0 : Int)))), ((20 : Nat), AV.bool true),
     ((21 : Nat), AV.int IntKind.i64 bud), ((22 : Nat), AV.int IntKind.i64 n),
     ((23 : Nat), AV.bool (decide (bud < n))), ((24 : Nat), AV.bool false),
     ((26 : Nat), AV.ptr (5 : Nat) (0 : Nat) (0 : Nat)), ((27 : Nat), AV.int IntKind.i64 z),
     ((28 : Nat), AV.ptr (5 : Nat) (0 : Nat) (1 : Nat)), ((29 : Nat), AV.ints false IntKind.u8 L),
     ((30 : Nat), AV.ownf (30 : Nat)), ((31 : Nat), AV.agg [AV.int IntKind.i64 z, AV.ownf (30 : Nat)])]
     [((5 : Nat), AV.box (24 : Nat) [AV.int IntKind.i64 z, AV.ints false IntKind.u8 L]),
     ((10 : Nat), AV.box (24 : Nat) [AV.int IntKind.i64 (0 : Int), AV.nil]),
     ((14 : Nat), AV.box (24 : Nat) [AV.int IntKind.i64 z, AV.ownf (30 : Nat)]),
     ((30 : Nat), AV.lini (5 : Nat) IntKind.u8 L)])) →
     chk (decide (L.length ≤ (1000000 : Nat)))
     (K
     (AS.mk
     [((0 : Nat), AV.agg [AV.int IntKind.i64 z, AV.ints false IntKind.u8 L]),
     ((1 : Nat), AV.int IntKind.i64 o), ((2 : Nat), AV.int IntKind.i64 n),
     ((3 : Nat), AV.int IntKind.i64 bud), ((4 : Nat), AV.fn (35 : Nat) none),
     ((5 : Nat), AV.ptr (5 : Nat) (0 : Nat) (0 : Nat)),
     ((10 : Nat), AV.ptr (10 : Nat) (0 : Nat) (0 : Nat)), ((11 : Nat), AV.int IntKind.i64 (0 : Int)),
     ((12 : Nat), AV.int IntKind.i64 (0 : Int)), ((13 : Nat), AV.int IntKind.i64 (0 : Int)),
     ((14 : Nat), AV.ptr (14 : Nat) (0 : Nat) (0 : Nat)), ((18 : Nat), AV.int IntKind.i64 bud),
     ((19 : Nat), AV.bool (decide (bud ≥ (0 : Int)))), ((20 : Nat), AV.bool true),
     ((21 : Nat), AV.int IntKind.i64 bud), ((22 : Nat), AV.int IntKind.i64 n),
     ((23 : Nat), AV.bool (decide (bud < n))), ((24 : Nat), AV.bool false),
     ((26 : Nat), AV.ptr (5 : Nat) (0 : Nat) (0 : Nat)), ((27 : Nat), AV.int IntKind.i64 z),
     ((28 : Nat), AV.ptr (5 : Nat) (0 : Nat) (1 : Nat)), ((29 : Nat), AV.ints false IntKind.u8 L),
     ((30 : Nat), AV.ownf (30 : Nat)), ((31 : Nat), AV.agg [AV.int IntKind.i64 z, AV.ownf (30 : Nat)])]
     [((5 : Nat), AV.box (24 : Nat) [AV.int IntKind.i64 z, AV.ints false IntKind.u8 L]),
     ((10 : Nat), AV.box (24 : Nat) [AV.int IntKind.i64 (0 : Int), AV.nil]),
     ((14 : Nat), AV.box (24 : Nat) [AV.int IntKind.i64 z, AV.ownf (30 : Nat)]),
     ((30 : Nat), AV.lini (5 : Nat) IntKind.u8 L)]))))
     (chk (decide (L.length ≤ (1000000 : Nat)))
     (chk (cutB L.length (some o) (some (IntKind.i64.wrap (o + n))))
     (chk
     (decide
     ((0 : Int) ≤ (0 : Int) ∧
     (0 : Int) ≤ @Nat.cast Int _ ((IntKind.i64.wrap (o + n)).toNat - o.toNat) ∧
     @Nat.cast Int _ ((IntKind.i64.wrap (o + n)).toNat - o.toNat) =
     @Nat.cast Int _ ((IntKind.i64.wrap (o + n)).toNat - o.toNat) ∧
     (0 : Nat) + o.toNat = (0 : Nat) + o.toNat ∧
     (IntKind.i64.wrap (o + n)).toNat - o.toNat = (IntKind.i64.wrap (o + n)).toNat - o.toNat ∧
     (0 : Nat) + o.toNat + ((IntKind.i64.wrap (o + n)).toNat - o.toNat) ≤ L.length ∧
     L.length ≤ (65536 : Nat)))
     (br (decide (bud ≥ (0 : Int)))
     (post
     (AV.tup
     [AV.agg
     [AV.int IntKind.i64 z,
     AV.ints false IntKind.u8
     (updF eraG L ((0 : Nat) + o.toNat) (0 : Nat)
     ((IntKind.i64.wrap (o + n)).toNat - o.toNat - (0 : Nat)))],
     AV.int IntKind.i64 (IntKind.i64.wrap (bud - n)), AV.int IntKind.i64 (0 : Int)])
     none)
     (post
     (AV.tup
     [AV.agg
     [AV.int IntKind.i64 z,
     AV.ints false IntKind.u8
     (updF eraG L ((0 : Nat) + o.toNat) (0 : Nat)
     ((IntKind.i64.wrap (o + n)).toNat - o.toNat - (0 : Nat)))],
     AV.int IntKind.i64 bud, AV.int IntKind.i64 (0 : Int)])
     none)))) ∧
     ∀ (K : AS → Prop),
     chk (decide (L.length ≤ (1000000 : Nat)))
     (K
     (AS.mk
     [((0 : Nat), AV.agg [AV.int IntKind.i64 z, AV.ints false IntKind.u8 L]),
     ((1 : Nat), AV.int IntKind.i64 o), ((2 : Nat), AV.int IntKind.i64 n),
     ((3 : Nat), AV.int IntKind.i64 bud), ((4 : Nat), AV.fn (35 : Nat) none),
     ((5 : Nat), AV.ptr (5 : Nat) (0 : Nat) (0 : Nat)), ((10 : Nat), AV.ptr (10 : Nat) (0 : Nat) (0 : Nat)),
     ((11 : Nat), AV.int IntKind.i64 (0 : Int)), ((12 : Nat), AV.int IntKind.i64 (0 : Int)),
     ((13 : Nat), AV.int IntKind.i64 (0 : Int)), ((14 : Nat), AV.ptr (14 : Nat) (0 : Nat) (0 : Nat)),
     ((18 : Nat), AV.int IntKind.i64 bud), ((19 : Nat), AV.bool (decide (bud ≥ (0 : Int)))),
     ((20 : Nat), AV.bool false), ((21 : Nat), AV.undef), ((22 : Nat), AV.undef), ((23 : Nat), AV.undef),
     ((24 : Nat), AV.bool false), ((26 : Nat), AV.ptr (5 : Nat) (0 : Nat) (0 : Nat)),
     ((27 : Nat), AV.int IntKind.i64 z), ((28 : Nat), AV.ptr (5 : Nat) (0 : Nat) (1 : Nat)),
     ((29 : Nat), AV.ints false IntKind.u8 L), ((30 : Nat), AV.ownf (30 : Nat)),
     ((31 : Nat), AV.agg [AV.int IntKind.i64 z, AV.ownf (30 : Nat)])]
     [((5 : Nat), AV.box (24 : Nat) [AV.int IntKind.i64 z, AV.ints false IntKind.u8 L]),
     ((10 : Nat), AV.box (24 : Nat) [AV.int IntKind.i64 (0 : Int), AV.nil]),
     ((14 : Nat), AV.box (24 : Nat) [AV.int IntKind.i64 z, AV.ownf (30 : Nat)]),
     ((30 : Nat), AV.lini (5 : Nat) IntKind.u8 L)])) →
     chk (decide (L.length ≤ (1000000 : Nat)))
     (K
     (AS.mk
     [((0 : Nat), AV.agg [AV.int IntKind.i64 z, AV.ints false IntKind.u8 L]),
     ((1 : Nat), AV.int IntKind.i64 o), ((2 : Nat), AV.int IntKind.i64 n),
     ((3 : Nat), AV.int IntKind.i64 bud), ((4 : Nat), AV.fn (35 : Nat) none),
     ((5 : Nat), AV.ptr (5 : Nat) (0 : Nat) (0 : Nat)), ((10 : Nat), AV.ptr (10 : Nat) (0 : Nat) (0 : Nat)),
     ((11 : Nat), AV.int IntKind.i64 (0 : Int)), ((12 : Nat), AV.int IntKind.i64 (0 : Int)),
     ((13 : Nat), AV.int IntKind.i64 (0 : Int)), ((14 : Nat), AV.ptr (14 : Nat) (0 : Nat) (0 : Nat)),
     ((18 : Nat), AV.int IntKind.i64 bud), ((19 : Nat), AV.bool (decide (bud ≥ (0 : Int)))),
     ((20 : Nat), AV.bool false), ((21 : Nat), AV.undef), ((22 : Nat), AV.undef), ((23 : Nat), AV.undef),
     ((24 : Nat), AV.bool false), ((26 : Nat), AV.ptr (5 : Nat) (0 : Nat) (0 : Nat)),
     ((27 : Nat), AV.int IntKind.i64 z), ((28 : Nat), AV.ptr (5 : Nat) (0 : Nat) (1 : Nat)),
     ((29 : Nat), AV.ints false IntKind.u8 L), ((30 : Nat), AV.ownf (30 : Nat)),
     ((31 : Nat), AV.agg [AV.int IntKind.i64 z, AV.ownf (30 : Nat)])]
     [((5 : Nat), AV.box (24 : Nat) [AV.int IntKind.i64 z, AV.ints false IntKind.u8 L]),
     ((10 : Nat), AV.box (24 : Nat) [AV.int IntKind.i64 (0 : Int), AV.nil]),
     ((14 : Nat), AV.box (24 : Nat) [AV.int IntKind.i64 z, AV.ownf (30 : Nat)]),
     ((30 : Nat), AV.lini (5 : Nat) IntKind.u8 L)])))) := by kernel_rfl
theorem q2800_7 (n bud er len i z : Int) (o m o2 m2 : Nat) (M : List Int) (k : Out → AS → Prop) : stepL c2800_0 kp2800_7 tr2800_7 (loopAt Proofs.Try.f28 7) ⟨[(2, .int .i64 n), (3, .int .i64 bud), (4, .fn 35 none), (10, .ptr 10 0 0), (13, .int .i64 er), (14, .ptr 14 0 0), (15, .own 30 o m), (39, .own 30 o2 m2), (40, .int .i64 len), (41, .int .i64 i)], [(10, .box 24 [.int .i64 0, .nil]), (14, .box 24 [.int .i64 z, .ownf 30]), (30, .lini 5 .u8 M)]⟩ k = (br (decide (i < len))
     (chk (inB i m2)
     (chk (decide (o2 + i.toNat < M.length))
     (chk (inB i m)
     (chk (decide (o + i.toNat < M.length))
     (k Out.normal
     (AS.mk
     [((2 : Nat), AV.int IntKind.i64 n), ((3 : Nat), AV.int IntKind.i64 bud),
     ((4 : Nat), AV.fn (35 : Nat) none), ((10 : Nat), AV.ptr (10 : Nat) (0 : Nat) (0 : Nat)),
     ((13 : Nat), AV.int IntKind.i64 er), ((14 : Nat), AV.ptr (14 : Nat) (0 : Nat) (0 : Nat)),
     ((15 : Nat), AV.own (30 : Nat) o m), ((39 : Nat), AV.own (30 : Nat) o2 m2),
     ((40 : Nat), AV.int IntKind.i64 len),
     ((41 : Nat), AV.int IntKind.i64 (IntKind.i64.wrap (i + (1 : Int))))]
     [((10 : Nat), AV.box (24 : Nat) [AV.int IntKind.i64 (0 : Int), AV.nil]),
     ((14 : Nat), AV.box (24 : Nat) [AV.int IntKind.i64 z, AV.ownf (30 : Nat)]),
     ((30 : Nat), AV.lini (5 : Nat) IntKind.u8 (M.set (o + i.toNat) (255 : Int)))]))))))
     (k (Out.exit (0 : Nat))
     (AS.mk
     [((2 : Nat), AV.int IntKind.i64 n), ((3 : Nat), AV.int IntKind.i64 bud),
     ((10 : Nat), AV.ptr (10 : Nat) (0 : Nat) (0 : Nat)), ((13 : Nat), AV.int IntKind.i64 er),
     ((14 : Nat), AV.ptr (14 : Nat) (0 : Nat) (0 : Nat))]
     [((10 : Nat), AV.box (24 : Nat) [AV.int IntKind.i64 (0 : Int), AV.nil]),
     ((14 : Nat), AV.box (24 : Nat) [AV.int IntKind.i64 z, AV.ownf (30 : Nat)]),
     ((30 : Nat), AV.lini (5 : Nat) IntKind.u8 M)]))) := by kernel_rfl

theorem i2800_7 (k : Out → AS → Prop) (fuel : Nat) : ∀ (n bud er len i z : Int) (o m o2 m2 : Nat) (M : List Int), (m - i).toNat < fuel → (0 ≤ i ∧ i ≤ m ∧ len = m ∧ o2 = o ∧ m2 = m ∧ o + m ≤ M.length ∧ M.length ≤ 65536) → (k (.exit 0) ⟨[(2, .int .i64 n), (3, .int .i64 bud), (10, .ptr 10 0 0), (13, .int .i64 er), (14, .ptr 14 0 0)], [(10, .box 24 [.int .i64 0, .nil]), (14, .box 24 [.int .i64 z, .ownf 30]), (30, .lini 5 .u8 (updF eraG M o i.toNat (m - i.toNat)))]⟩) → iterL (stepL c2800_0 kp2800_7 tr2800_7 (loopAt Proofs.Try.f28 7)) k fuel ⟨[(2, .int .i64 n), (3, .int .i64 bud), (4, .fn 35 none), (10, .ptr 10 0 0), (13, .int .i64 er), (14, .ptr 14 0 0), (15, .own 30 o m), (39, .own 30 o2 m2), (40, .int .i64 len), (41, .int .i64 i)], [(10, .box 24 [.int .i64 0, .nil]), (14, .box 24 [.int .i64 z, .ownf 30]), (30, .lini 5 .u8 M)]⟩ := by
  induction fuel with
  | zero => intro n bud er len i z o m o2 m2 M hm; omega
  | succ fuel ih =>
    intro n bud er len i z o m o2 m2 M hm hp hk
    simp only [iterL]
    rw [q2800_7]
    dsimp only
    obtain ⟨p1, p2, rfl, rfl, rfl, p6, p7⟩ := hp
    refine br_dec (fun hc => ?_) (fun hc => k_of hk ?_)
    · rw [wrap_i64 (n := i + 1) (by omega) (by omega)]
      refine chk_inB (by omega) (by omega) (chk_dec (by omega) (chk_inB (by omega) (by omega) (chk_dec (by omega) ?_)))
      refine ih _ _ _ _ _ _ _ _ _ _ _ (by omega) ⟨by omega, by omega, rfl, rfl, rfl, by rw [List.length_set]; omega, by rw [List.length_set]; omega⟩ (k_of hk ?_)
      rw [show (i + 1).toNat = i.toNat + 1 by omega, show m2 - i.toNat = (m2 - (i.toNat + 1)) + 1 by omega]
      rfl
    · rw [show m2 - i.toNat = 0 by omega]
      rfl
theorem l2800_7 : ∀ s k, L2800_7 s k → Tri Proofs.Try.prog 62 (.loop (loopAt Proofs.Try.f28 7)) s k := by
  intro s k h
  unfold L2800_7 at h
  split at h
  · obtain ⟨h1, h2⟩ := chk_iff.1 h
    exact iter_ok (c := c2800_0) gam_ok (l := u2800) a2800 rfl mixed_ok (by kernel_rfl) (ls := []) rfl (.inl rfl) trivial (kps := kp2800_7) (tr := tr2800_7) (_) (i2800_7 k _ _ _ _ _ _ _ _ _ _ _ _ (Nat.lt_succ_self _) (of_decide_eq_true h1) h2)
  · exact h.elim
theorem p2800_0 (z : Int) (L : List Int) (o n bud : Int) (post : AV → Option AV → Prop) (hin : InRL [.agg [.int .i64 z, .ints false .u8 L], .int .i64 o, .int .i64 n, .int .i64 bud, .fn 35 none]) (hie : InRO none) (h : chk (decide (0 ≤ o ∧ 0 ≤ n ∧ o + n ≤ L.length ∧ L.length ≤ 65536)) (post (resF z (chg eraG L o.toNat n.toNat bud)).V none)) : Ok (runF c2800 pm2800 Proofs.Try.f28 [.agg [.int .i64 z, .ints false .u8 L], .int .i64 o, .int .i64 n, .int .i64 bud, .fn 35 none] none (post)) := by
  refine ⟨?_⟩
  rw [t2800_0]
  obtain ⟨h1, h2⟩ := chk_iff.1 h
  have hq := of_decide_eq_true h1
  have hin' := hin
  simp only [InRL, InR] at hin'
  have hbr := in_i64.1 hin'.2.2.2.1
  have hc : decide (L.length ≤ 1000000) = true := decide_eq_true (by omega)
  simp only [hc, chk_true, imp_self, implies_true, and_true]
  refine br_dec (fun hb => br_dec (fun hb2 => ?_) (fun hb2 => ?_)) (fun hb => ?_)
  · rw [chg, chgR, if_pos (by omega)] at h2
    rw [wrap_i64 (n := o + bud) (by omega) (by omega), wrap_i64 (n := bud - bud) (by omega) (by omega)]
    refine chk_of (cut_both (by omega) (by omega) (by omega)) (chk_dec ⟨by omega, by omega, trivial, trivial, trivial, by omega, by omega⟩ (br_dec (fun _ => ?_) (fun hh => absurd hb hh)))
    rw [Nat.zero_add, show (o + bud).toNat - o.toNat - 0 = bud.toNat by omega, show bud - bud = 0 by omega]
    exact h2
  · rw [chg, chgR, if_neg (by omega), if_pos (by omega)] at h2
    rw [wrap_i64 (n := o + n) (by omega) (by omega), wrap_i64 (n := bud - n) (by omega) (by omega)]
    refine chk_of (cut_both (by omega) (by omega) (by omega)) (chk_dec ⟨by omega, by omega, trivial, trivial, trivial, by omega, by omega⟩ (br_dec (fun _ => ?_) (fun hh => absurd hb hh)))
    rw [Nat.zero_add, show (o + n).toNat - o.toNat - 0 = n.toNat - 0 by omega, show bud - n = bud - ((n.toNat : Int) - ((0 : Nat) : Int)) by omega]
    exact h2
  · rw [chg, chgR, if_neg (by omega), if_neg (by omega)] at h2
    rw [wrap_i64 (n := o + n) (by omega) (by omega)]
    refine chk_of (cut_both (by omega) (by omega) (by omega)) (chk_dec ⟨by omega, by omega, trivial, trivial, trivial, by omega, by omega⟩ (br_dec (fun hh => absurd hh hb) (fun _ => ?_)))
    rw [Nat.zero_add, show (o + n).toNat - o.toNat - 0 = n.toNat - 0 by omega]
    exact h2
theorem k2800 : Keeps Proofs.Try.prog 28 S2800 := by
  refine ⟨?_, Proofs.Try.f28, by kernel_rfl, by kernel_rfl, by kernel_rfl⟩
  intro args e post h
  unfold S2800 at h
  split at h
  · refine Spec.inR fun hin hie => fun_ok' (c := c2800) gam_ok (l := u2800) a2800 rfl mixed_ok (fn := Proofs.Try.f28) (show Proofs.Try.prog.funcs[28]? = some Proofs.Try.f28 by kernel_rfl) (by kernel_rfl) (ls := [(7, L2800_7)]) rfl (.inr (by kernel_rfl)) ⟨l2800_7, trivial⟩ (pm := pm2800) (by simp [c2800]) (by rintro ⟨t, l, h⟩; cases h) ?_
    exact p2800_0 _ _ _ _ _ _ hin hie h
  · exact h.elim
def pm20 : Pm := ⟨[flS, .s, .s, .i .u8, .s], .no, [flS, .s, .s]⟩
def u20 : List (Nat × Tr) := [(13, S13), (24, S24), (28, S28)]
theorem a20 : AllKeep Proofs.Try.prog u20 := ⟨k13, k24, k28, trivial⟩

def c20 : Cfg := { n := 53, Γ := Gam, C := ofL u20, pm := pmL [(13, pm13), (24, pm24), (28, pm28)], plan := noP, L := lpL [], unroll := nmL [], keep := kpL [] }
def S20 : Tr
  | [.agg [.int .i64 z, .ints false .u8 L], .int .i64 page, .int .i64 at', .ints false .u8 b, .int .i64 bud], none, post => post (progF z L page at' b bud).V none
  | _, _, _ => False
theorem t20_0 (z : Int) (L : List Int) (page at' bud : Int) (b : List Int) (post : AV → Option AV → Prop) : runF c20 pm20 Proofs.Try.f20 [.agg [.int .i64 z, .ints false .u8 L], .int .i64 page, .int .i64 at', .ints false .u8 b, .int .i64 bud] none post = (br (valE z L.length != (0 : Int))
     (post
     (AV.tup
     [AV.agg [AV.int IntKind.i64 (0 : Int), AV.ints false IntKind.u8 []], AV.int IntKind.i64 (0 : Int),
     AV.int IntKind.i64 (valE z L.length)])
     none)
     (chk (decide (valE z L.length = (0 : Int)))
     (br (!decide ((0 : Int) ≤ page ∧ page < @Nat.cast Int _ L.length / z))
     (post
     (AV.tup
     [AV.agg [AV.int IntKind.i64 (0 : Int), AV.ints false IntKind.u8 []], AV.int IntKind.i64 (0 : Int),
     AV.int IntKind.i64 (9 : Int)])
     none)
     (br (decide (at' < (0 : Int)))
     (post
     (AV.tup
     [AV.agg [AV.int IntKind.i64 (0 : Int), AV.ints false IntKind.u8 []], AV.int IntKind.i64 (0 : Int),
     AV.int IntKind.i64 (9 : Int)])
     none)
     (br (decide (at' > IntKind.i64.wrap (z - @Nat.cast Int _ b.length)))
     (post
     (AV.tup
     [AV.agg [AV.int IntKind.i64 (0 : Int), AV.ints false IntKind.u8 []], AV.int IntKind.i64 (0 : Int),
     AV.int IntKind.i64 (9 : Int)])
     none)
     (chk
     (decide
     ((0 : Int) ≤ IntKind.i64.wrap (IntKind.i64.wrap (page * z) + at') ∧
     (0 : Int) ≤ @Nat.cast Int _ b.length ∧
     IntKind.i64.wrap (IntKind.i64.wrap (page * z) + at') + @Nat.cast Int _ b.length ≤ @Nat.cast Int _ L.length ∧
     L.length ≤ (65536 : Nat) ∧ @Nat.cast Int _ b.length ≤ @Nat.cast Int _ b.length))
     (post
     (AV.tup
     [AV.agg
     [AV.int IntKind.i64
     (resF z
     (chg (andG b) L (IntKind.i64.wrap (IntKind.i64.wrap (page * z) + at')).toNat
     (@Nat.cast Int _ b.length).toNat bud)).z,
     AV.ints false IntKind.u8
     (resF z
     (chg (andG b) L (IntKind.i64.wrap (IntKind.i64.wrap (page * z) + at')).toNat
     (@Nat.cast Int _ b.length).toNat bud)).l],
     AV.int IntKind.i64
     (resF z
     (chg (andG b) L (IntKind.i64.wrap (IntKind.i64.wrap (page * z) + at')).toNat
     (@Nat.cast Int _ b.length).toNat bud)).bud,
     AV.int IntKind.i64
     (resF z
     (chg (andG b) L (IntKind.i64.wrap (IntKind.i64.wrap (page * z) + at')).toNat
     (@Nat.cast Int _ b.length).toNat bud)).e])
     none))))))) := by kernel_rfl
theorem p20_0 (z : Int) (L : List Int) (page at' bud : Int) (b : List Int) (post : AV → Option AV → Prop) (hin : InRL [.agg [.int .i64 z, .ints false .u8 L], .int .i64 page, .int .i64 at', .ints false .u8 b, .int .i64 bud]) (hie : InRO none) (h : post (progF z L page at' b bud).V none) : Ok (runF c20 pm20 Proofs.Try.f20 [.agg [.int .i64 z, .ints false .u8 L], .int .i64 page, .int .i64 at', .ints false .u8 b, .int .i64 bud] none (post)) := by
  refine ⟨?_⟩
  rw [t20_0]
  refine br_ne (fun hv => ?_) (fun hv => chk_dec hv ?_)
  · rw [progF, areaE, if_pos hv, if_pos hv] at h
    exact h
  · obtain ⟨w1, w2, w3⟩ := val_len hv
    obtain ⟨v1, v2, _⟩ := val_ok hv
    have hA : areaE z L.length page at' (b.length : Int) = if page < 0 ∨ (L.length : Int) / z ≤ page ∨ at' < 0 ∨ (b.length : Int) < 0 ∨ z < at' ∨ z - at' < (b.length : Int) then 9 else 0 := by rw [areaE, if_neg (fun hh => hh hv)]
    by_cases hc : areaE z L.length page at' (b.length : Int) = 0
    · obtain ⟨g1, g2, g3, g4, g5, g6, g7, g8⟩ := area_ok hc
      have hp := page_end g1 g2 g3
      rw [progF, if_neg (fun hh => hh hc)] at h
      generalize page * z = pz at *
      rw [wrap_i64 (n := z - b.length) (by omega) (by omega), wrap_i64 (n := pz) (by omega) (by omega), wrap_i64 (n := pz + at') (by omega) (by omega)]
      refine br_not (br_dec (fun _ => br_dec (fun _ => by exfalso; omega) (fun _ => br_dec (fun _ => by exfalso; omega) (fun _ => ?_))) (fun hh => absurd ⟨g2, g3⟩ hh))
      exact chk_dec (by omega) h
    · have h9 : areaE z L.length page at' (b.length : Int) = 9 := by
        rw [hA]
        split
        · rfl
        · rename_i hq
          rw [hA, if_neg hq] at hc
          exact absurd rfl hc
      have hq : page < 0 ∨ (L.length : Int) / z ≤ page ∨ at' < 0 ∨ (b.length : Int) < 0 ∨ z < at' ∨ z - at' < (b.length : Int) := by
        rw [hA] at hc
        split at hc
        · assumption
        · exact absurd rfl hc
      rw [progF, if_pos hc, h9] at h
      have hlen : (b.length : Int) ≤ 9223372036854775807 := by
        have hin' := hin
        simp only [InRL, InR] at hin'
        have := hin'.2.2.2.1.2
        have hm : maxLen = 9223372036854775807 := rfl
        omega
      refine br_not (br_dec (fun hp => br_dec (fun _ => h) (fun _ => ?_)) (fun _ => h))
      rw [wrap_i64 (n := z - b.length) (by omega) (by omega)]
      refine br_dec (fun _ => h) (fun _ => ?_)
      exfalso
      omega
theorem k20 : Keeps Proofs.Try.prog 20 S20 := by
  refine ⟨?_, Proofs.Try.f20, by kernel_rfl, by kernel_rfl, by kernel_rfl⟩
  intro args e post h
  unfold S20 at h
  split at h
  · refine Spec.inR fun hin hie => fun_ok' (c := c20) gam_ok (l := u20) a20 rfl mixed_ok (fn := Proofs.Try.f20) (show Proofs.Try.prog.funcs[20]? = some Proofs.Try.f20 by kernel_rfl) (by kernel_rfl) (ls := []) rfl (.inl rfl) trivial (pm := pm20) (by simp [c20]) (by rintro ⟨t, l, h⟩; cases h) ?_
    exact p20_0 _ _ _ _ _ _ _ hin hie h
  · exact h.elim
def pm30 : Pm := ⟨[flS, .s, .s], .no, [flS, .s, .s]⟩
def u30 : List (Nat × Tr) := [(13, S13), (24, S24), (28, S2800), (35, S35)]
theorem a30 : AllKeep Proofs.Try.prog u30 := ⟨k13, k24, k2800, k35, trivial⟩

def c30 : Cfg := { n := 33, Γ := Gam, C := ofL u30, pm := pmL [(13, pm13), (24, pm24), (28, pm2800), (35, pm35)], plan := noP, L := lpL [], unroll := nmL [], keep := kpL [] }
def S30 : Tr
  | [.agg [.int .i64 z, .ints false .u8 L], .int .i64 page, .int .i64 bud], none, post => post (eraF z L page bud).V none
  | _, _, _ => False
theorem t30_0 (z : Int) (L : List Int) (page bud : Int) (post : AV → Option AV → Prop) : runF c30 pm30 Proofs.Try.f30 [.agg [.int .i64 z, .ints false .u8 L], .int .i64 page, .int .i64 bud] none post = (br (valE z L.length != (0 : Int))
     (post
     (AV.tup
     [AV.agg [AV.int IntKind.i64 (0 : Int), AV.ints false IntKind.u8 []], AV.int IntKind.i64 (0 : Int),
     AV.int IntKind.i64 (valE z L.length)])
     none)
     (chk (decide (valE z L.length = (0 : Int)))
     (br (!decide ((0 : Int) ≤ page ∧ page < @Nat.cast Int _ L.length / z))
     (post
     (AV.tup
     [AV.agg [AV.int IntKind.i64 (0 : Int), AV.ints false IntKind.u8 []], AV.int IntKind.i64 (0 : Int),
     AV.int IntKind.i64 (9 : Int)])
     none)
     (chk
     (decide
     ((0 : Int) ≤ IntKind.i64.wrap (page * z) ∧
     (0 : Int) ≤ z ∧ IntKind.i64.wrap (page * z) + z ≤ @Nat.cast Int _ L.length ∧ L.length ≤ (65536 : Nat)))
     (post
     (AV.tup
     [AV.agg
     [AV.int IntKind.i64 (resF z (chg eraG L (IntKind.i64.wrap (page * z)).toNat z.toNat bud)).z,
     AV.ints false IntKind.u8 (resF z (chg eraG L (IntKind.i64.wrap (page * z)).toNat z.toNat bud)).l],
     AV.int IntKind.i64 (resF z (chg eraG L (IntKind.i64.wrap (page * z)).toNat z.toNat bud)).bud,
     AV.int IntKind.i64 (resF z (chg eraG L (IntKind.i64.wrap (page * z)).toNat z.toNat bud)).e])
     none))))) := by kernel_rfl
theorem p30_0 (z : Int) (L : List Int) (page bud : Int) (post : AV → Option AV → Prop) (hin : InRL [.agg [.int .i64 z, .ints false .u8 L], .int .i64 page, .int .i64 bud]) (hie : InRO none) (h : post (eraF z L page bud).V none) : Ok (runF c30 pm30 Proofs.Try.f30 [.agg [.int .i64 z, .ints false .u8 L], .int .i64 page, .int .i64 bud] none (post)) := by
  refine ⟨?_⟩
  rw [t30_0]
  refine br_ne (fun hv => ?_) (fun hv => chk_dec hv ?_)
  · rw [eraF, areaE, if_pos hv, if_pos hv] at h
    exact h
  · obtain ⟨w1, w2, w3⟩ := val_len hv
    obtain ⟨v1, v2, _⟩ := val_ok hv
    have hA : areaE z L.length page (0 : Int) (0 : Int) = if page < 0 ∨ (L.length : Int) / z ≤ page ∨ (0 : Int) < 0 ∨ (0 : Int) < 0 ∨ z < (0 : Int) ∨ z - (0 : Int) < (0 : Int) then 9 else 0 := by rw [areaE, if_neg (fun hh => hh hv)]
    by_cases hc : areaE z L.length page (0 : Int) (0 : Int) = 0
    · obtain ⟨g1, g2, g3, g4, g5, g6, g7, g8⟩ := area_ok hc
      have hp := page_end g1 g2 g3
      rw [eraF, if_neg (fun hh => hh hc)] at h
      generalize page * z = pz at *
      rw [wrap_i64 (n := pz) (by omega) (by omega)]
      refine br_not (br_dec (fun _ => ?_) (fun hh => absurd ⟨g2, g3⟩ hh))
      exact chk_dec (by omega) h
    · have h9 : areaE z L.length page (0 : Int) (0 : Int) = 9 := by
        rw [hA]
        split
        · rfl
        · rename_i hq
          rw [hA, if_neg hq] at hc
          exact absurd rfl hc
      have hq : page < 0 ∨ (L.length : Int) / z ≤ page ∨ (0 : Int) < 0 ∨ (0 : Int) < 0 ∨ z < (0 : Int) ∨ z - (0 : Int) < (0 : Int) := by
        rw [hA] at hc
        split at hc
        · assumption
        · exact absurd rfl hc
      rw [eraF, if_pos hc, h9] at h
      refine br_not (br_dec (fun hp => ?_) (fun _ => h))
      exfalso
      omega
theorem k30 : Keeps Proofs.Try.prog 30 S30 := by
  refine ⟨?_, Proofs.Try.f30, by kernel_rfl, by kernel_rfl, by kernel_rfl⟩
  intro args e post h
  unfold S30 at h
  split at h
  · refine Spec.inR fun hin hie => fun_ok' (c := c30) gam_ok (l := u30) a30 rfl mixed_ok (fn := Proofs.Try.f30) (show Proofs.Try.prog.funcs[30]? = some Proofs.Try.f30 by kernel_rfl) (by kernel_rfl) (ls := []) rfl (.inl rfl) trivial (pm := pm30) (by simp [c30]) (by rintro ⟨t, l, h⟩; cases h) ?_
    exact p30_0 _ _ _ _ _ hin hie h
  · exact h.elim
end Go.Proofs.Ytnioiijcmdnhaaa.V
