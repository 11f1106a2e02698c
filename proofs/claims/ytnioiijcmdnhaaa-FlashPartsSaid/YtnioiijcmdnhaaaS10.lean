import Derived.Test.YtnioiijcmdnhaaaPlans
import Derived.Test.YtnioiijcmdnhaaaVNum
import Derived.Test.YtnioiijcmdnhaaaProg
import Derived.Test.YtnioiijcmdnhaaaS0
import Derived.Test.YtnioiijcmdnhaaaS1
import Derived.Test.YtnioiijcmdnhaaaS2
import Derived.Test.YtnioiijcmdnhaaaS3
import Derived.Test.YtnioiijcmdnhaaaS4
import Derived.Test.YtnioiijcmdnhaaaR4
import Derived.Test.YtnioiijcmdnhaaaS6
import Derived.Test.YtnioiijcmdnhaaaS7
import Derived.Test.YtnioiijcmdnhaaaPQ2
import Derived.KernelRfl
set_option linter.all false
set_option maxHeartbeats 1000000
namespace Go.Proofs.Ytnioiijcmdnhaaa.V
open Go
def pm6 : Pm := ⟨[.s, .i .i64, .s, .i .u8, .s], .no, [.s]⟩
def u6 : List (Nat × Tr) := [(9, S9), (12, S12), (16, S16), (20, S20)]
theorem a6 : AllKeep Proofs.Try.prog u6 := ⟨k9, k12, k16, k20, trivial⟩

def c6 : Cfg := { n := 98, Γ := Gam, C := ofL u6, pm := pmL [(9, pm9), (12, pm12), (16, pm16), (20, pm20)], plan := plan6, L := lpL [], unroll := nmL [], keep := kpL [] }
def S6 : Tr
  | [.int .i64 n, .ints false .i64 l, .int .u8 a, .ints false .u8 q, .int .u8 c], none, post => post (.bool true) none
  | _, _, _ => False
theorem t6_0 (n a c : Int) (l q : List Int) (post : AV → Option AV → Prop) : runF c6 pm6 Proofs.Try.f6 [.int .i64 n, .ints false .i64 l, .int .u8 a, .ints false .u8 q, .int .u8 c] none post = (br (decide (@Nat.cast Int _ q.length > (200 : Int))) (post (AV.bool true) none)
     (∀ (z : Int) (L : List Int),
     valE z L.length = (0 : Int) →
     chk (cutB q.length (some (imin (IntKind.i64.wrap c) (@Nat.cast Int _ q.length))) none)
     (br (imin (IntKind.i64.wrap c) (@Nat.cast Int _ q.length) == @Nat.cast Int _ q.length)
     (br ((progF z L (0 : Int) (IntKind.i64.wrap a) q (-1 : Int)).e == (0 : Int))
     (br ((progF z L (0 : Int) (IntKind.i64.wrap a) q (-1 : Int)).bud == (-1 : Int))
     (br
     ((progF z L (0 : Int) (IntKind.i64.wrap a) q (imin (IntKind.i64.wrap c) (@Nat.cast Int _ q.length))).bud ==
     (0 : Int))
     (br
     ((progF z L (0 : Int) (IntKind.i64.wrap a) q (imin (IntKind.i64.wrap c) (@Nat.cast Int _ q.length))).e ==
     (0 : Int))
     (br
     ((progF
     (progF z L (0 : Int) (IntKind.i64.wrap a) q
     (imin (IntKind.i64.wrap c) (@Nat.cast Int _ q.length))).z
     (progF z L (0 : Int) (IntKind.i64.wrap a) q
     (imin (IntKind.i64.wrap c) (@Nat.cast Int _ q.length))).l
     (0 : Int)
     (IntKind.i64.wrap (IntKind.i64.wrap a + imin (IntKind.i64.wrap c) (@Nat.cast Int _ q.length)))
     (List.drop (imin (IntKind.i64.wrap c) (@Nat.cast Int _ q.length)).toNat q) (-1 : Int)).e ==
     (0 : Int))
     (((progF z L (0 : Int) (IntKind.i64.wrap a) q (-1 : Int)).z =
     (progF (progF z L (0 : Int) (IntKind.i64.wrap a) q (imin (IntKind.i64.wrap c) ↑q.length)).z
     (progF z L (0 : Int) (IntKind.i64.wrap a) q (imin (IntKind.i64.wrap c) ↑q.length)).l
     (0 : Int) (IntKind.i64.wrap (IntKind.i64.wrap a + imin (IntKind.i64.wrap c) ↑q.length))
     (cutL q (some (imin (IntKind.i64.wrap c) ↑q.length)) none) (-1 : Int)).z ∧
     (progF z L (0 : Int) (IntKind.i64.wrap a) q (-1 : Int)).l =
     (progF (progF z L (0 : Int) (IntKind.i64.wrap a) q (imin (IntKind.i64.wrap c) ↑q.length)).z
     (progF z L (0 : Int) (IntKind.i64.wrap a) q (imin (IntKind.i64.wrap c) ↑q.length)).l
     (0 : Int) (IntKind.i64.wrap (IntKind.i64.wrap a + imin (IntKind.i64.wrap c) ↑q.length))
     (cutL q (some (imin (IntKind.i64.wrap c) ↑q.length)) none) (-1 : Int)).l) ∧
     post (AV.bool true) none)
     (post (AV.bool false) none))
     (post (AV.bool false) none))
     (post (AV.bool false) none))
     (post (AV.bool false) none))
     (post (AV.bool false) none))
     (br ((progF z L (0 : Int) (IntKind.i64.wrap a) q (-1 : Int)).e == (0 : Int))
     (br ((progF z L (0 : Int) (IntKind.i64.wrap a) q (-1 : Int)).bud == (-1 : Int))
     (br
     ((progF z L (0 : Int) (IntKind.i64.wrap a) q (imin (IntKind.i64.wrap c) (@Nat.cast Int _ q.length))).bud ==
     (0 : Int))
     (br
     ((progF z L (0 : Int) (IntKind.i64.wrap a) q (imin (IntKind.i64.wrap c) (@Nat.cast Int _ q.length))).e ==
     (16 : Int))
     (br
     ((progF
     (progF z L (0 : Int) (IntKind.i64.wrap a) q
     (imin (IntKind.i64.wrap c) (@Nat.cast Int _ q.length))).z
     (progF z L (0 : Int) (IntKind.i64.wrap a) q
     (imin (IntKind.i64.wrap c) (@Nat.cast Int _ q.length))).l
     (0 : Int)
     (IntKind.i64.wrap (IntKind.i64.wrap a + imin (IntKind.i64.wrap c) (@Nat.cast Int _ q.length)))
     (List.drop (imin (IntKind.i64.wrap c) (@Nat.cast Int _ q.length)).toNat q) (-1 : Int)).e ==
     (0 : Int))
     (((progF z L (0 : Int) (IntKind.i64.wrap a) q (-1 : Int)).z =
     (progF (progF z L (0 : Int) (IntKind.i64.wrap a) q (imin (IntKind.i64.wrap c) ↑q.length)).z
     (progF z L (0 : Int) (IntKind.i64.wrap a) q (imin (IntKind.i64.wrap c) ↑q.length)).l
     (0 : Int) (IntKind.i64.wrap (IntKind.i64.wrap a + imin (IntKind.i64.wrap c) ↑q.length))
     (cutL q (some (imin (IntKind.i64.wrap c) ↑q.length)) none) (-1 : Int)).z ∧
     (progF z L (0 : Int) (IntKind.i64.wrap a) q (-1 : Int)).l =
     (progF (progF z L (0 : Int) (IntKind.i64.wrap a) q (imin (IntKind.i64.wrap c) ↑q.length)).z
     (progF z L (0 : Int) (IntKind.i64.wrap a) q (imin (IntKind.i64.wrap c) ↑q.length)).l
     (0 : Int) (IntKind.i64.wrap (IntKind.i64.wrap a + imin (IntKind.i64.wrap c) ↑q.length))
     (cutL q (some (imin (IntKind.i64.wrap c) ↑q.length)) none) (-1 : Int)).l) ∧
     post (AV.bool true) none)
     (post (AV.bool false) none))
     (post (AV.bool false) none))
     (post (AV.bool false) none))
     (post (AV.bool false) none))
     (post (AV.bool false) none)) ∧
     ∀ (K : AS → Prop),
     K
     (AS.mk
     [((0 : Nat), AV.int IntKind.i64 n), ((1 : Nat), AV.ints false IntKind.i64 l),
     ((2 : Nat), AV.int IntKind.u8 a), ((3 : Nat), AV.ints false IntKind.u8 q),
     ((4 : Nat), AV.int IntKind.u8 c), ((10 : Nat), AV.bool false),
     ((11 : Nat), AV.ptr (11 : Nat) (0 : Nat) (0 : Nat)),
     ((12 : Nat), AV.int IntKind.i64 (imin (IntKind.i64.wrap c) (@Nat.cast Int _ q.length))),
     ((13 : Nat), AV.ptr (13 : Nat) (0 : Nat) (0 : Nat)),
     ((14 : Nat), AV.int IntKind.i64 (progF z L (0 : Int) (IntKind.i64.wrap a) q (-1 : Int)).bud),
     ((15 : Nat), AV.int IntKind.i64 (progF z L (0 : Int) (IntKind.i64.wrap a) q (-1 : Int)).e),
     ((16 : Nat), AV.ptr (16 : Nat) (0 : Nat) (0 : Nat)),
     ((17 : Nat),
     AV.int IntKind.i64
     (progF z L (0 : Int) (IntKind.i64.wrap a) q
     (imin (IntKind.i64.wrap c) (@Nat.cast Int _ q.length))).bud),
     ((18 : Nat),
     AV.int IntKind.i64
     (progF z L (0 : Int) (IntKind.i64.wrap a) q
     (imin (IntKind.i64.wrap c) (@Nat.cast Int _ q.length))).e),
     ((19 : Nat), AV.ptr (19 : Nat) (0 : Nat) (0 : Nat)),
     ((20 : Nat),
     AV.int IntKind.i64
     (progF
     (progF z L (0 : Int) (IntKind.i64.wrap a) q
     (imin (IntKind.i64.wrap c) (@Nat.cast Int _ q.length))).z
     (progF z L (0 : Int) (IntKind.i64.wrap a) q
     (imin (IntKind.i64.wrap c) (@Nat.cast Int _ q.length))).l
     (0 : Int)
     (IntKind.i64.wrap (IntKind.i64.wrap a + imin (IntKind.i64.wrap c) (@Nat.cast Int _ q.length)))
     (List.drop (imin (IntKind.i64.wrap c) (@Nat.cast Int _ q.length)).toNat q) (-1 : Int)).bud),
     ((21 : Nat),
     AV.int IntKind.i64
     (progF
     (progF z L (0 : Int) (IntKind.i64.wrap a) q
     (imin (IntKind.i64.wrap c) (@Nat.cast Int _ q.length))).z
     (progF z L (0 : Int) (IntKind.i64.wrap a) q
     (imin (IntKind.i64.wrap c) (@Nat.cast Int _ q.length))).l
     (0 : Int)
     (IntKind.i64.wrap (IntKind.i64.wrap a + imin (IntKind.i64.wrap c) (@Nat.cast Int _ q.length)))
     (List.drop (imin (IntKind.i64.wrap c) (@Nat.cast Int _ q.length)).toNat q) (-1 : Int)).e),
     ((23 : Nat), AV.ints false IntKind.u8 q), ((24 : Nat), AV.int IntKind.i64 (@Nat.cast Int _ q.length)),
     ((25 : Nat), AV.bool false), ((27 : Nat), AV.int IntKind.i64 n),
     ((28 : Nat), AV.ints false IntKind.i64 l),
     ((29 : Nat), AV.agg [AV.int IntKind.i64 z, AV.ints false IntKind.u8 L]),
     ((30 : Nat), AV.int IntKind.u8 c), ((31 : Nat), AV.int IntKind.i64 (IntKind.i64.wrap c)),
     ((32 : Nat), AV.ints false IntKind.u8 q), ((33 : Nat), AV.int IntKind.i64 (@Nat.cast Int _ q.length)),
     ((34 : Nat), AV.int IntKind.i64 (imin (IntKind.i64.wrap c) (@Nat.cast Int _ q.length))),
     ((35 : Nat),
     AV.tup
     [AV.agg
     [AV.int IntKind.i64 (progF z L (0 : Int) (IntKind.i64.wrap a) q (-1 : Int)).z,
     AV.ints false IntKind.u8 (progF z L (0 : Int) (IntKind.i64.wrap a) q (-1 : Int)).l],
     AV.int IntKind.i64 (progF z L (0 : Int) (IntKind.i64.wrap a) q (-1 : Int)).bud,
     AV.int IntKind.i64 (progF z L (0 : Int) (IntKind.i64.wrap a) q (-1 : Int)).e]),
     ((36 : Nat), AV.agg [AV.int IntKind.i64 z, AV.ints false IntKind.u8 L]),
     ((37 : Nat), AV.int IntKind.u8 a), ((38 : Nat), AV.int IntKind.i64 (IntKind.i64.wrap a)),
     ((39 : Nat), AV.ints false IntKind.u8 q),
     ((40 : Nat),
     AV.tup
     [AV.agg
     [AV.int IntKind.i64 (progF z L (0 : Int) (IntKind.i64.wrap a) q (-1 : Int)).z,
     AV.ints false IntKind.u8 (progF z L (0 : Int) (IntKind.i64.wrap a) q (-1 : Int)).l],
     AV.int IntKind.i64 (progF z L (0 : Int) (IntKind.i64.wrap a) q (-1 : Int)).bud,
     AV.int IntKind.i64 (progF z L (0 : Int) (IntKind.i64.wrap a) q (-1 : Int)).e]),
     ((41 : Nat),
     AV.agg
     [AV.int IntKind.i64 (progF z L (0 : Int) (IntKind.i64.wrap a) q (-1 : Int)).z,
     AV.ints false IntKind.u8 (progF z L (0 : Int) (IntKind.i64.wrap a) q (-1 : Int)).l]),
     ((42 : Nat), AV.int IntKind.i64 (progF z L (0 : Int) (IntKind.i64.wrap a) q (-1 : Int)).bud),
     ((43 : Nat), AV.int IntKind.i64 (progF z L (0 : Int) (IntKind.i64.wrap a) q (-1 : Int)).e),
     ((44 : Nat),
     AV.tup
     [AV.agg
     [AV.int IntKind.i64
     (progF z L (0 : Int) (IntKind.i64.wrap a) q
     (imin (IntKind.i64.wrap c) (@Nat.cast Int _ q.length))).z,
     AV.ints false IntKind.u8
     (progF z L (0 : Int) (IntKind.i64.wrap a) q
     (imin (IntKind.i64.wrap c) (@Nat.cast Int _ q.length))).l],
     AV.int IntKind.i64
     (progF z L (0 : Int) (IntKind.i64.wrap a) q
     (imin (IntKind.i64.wrap c) (@Nat.cast Int _ q.length))).bud,
     AV.int IntKind.i64
     (progF z L (0 : Int) (IntKind.i64.wrap a) q
     (imin (IntKind.i64.wrap c) (@Nat.cast Int _ q.length))).e]),
     ((45 : Nat), AV.agg [AV.int IntKind.i64 z, AV.ints false IntKind.u8 L]),
     ((46 : Nat), AV.int IntKind.u8 a), ((47 : Nat), AV.int IntKind.i64 (IntKind.i64.wrap a)),
     ((48 : Nat), AV.ints false IntKind.u8 q),
     ((49 : Nat), AV.int IntKind.i64 (imin (IntKind.i64.wrap c) (@Nat.cast Int _ q.length))),
     ((50 : Nat),
     AV.tup
     [AV.agg
     [AV.int IntKind.i64
     (progF z L (0 : Int) (IntKind.i64.wrap a) q
     (imin (IntKind.i64.wrap c) (@Nat.cast Int _ q.length))).z,
     AV.ints false IntKind.u8
     (progF z L (0 : Int) (IntKind.i64.wrap a) q
     (imin (IntKind.i64.wrap c) (@Nat.cast Int _ q.length))).l],
     AV.int IntKind.i64
     (progF z L (0 : Int) (IntKind.i64.wrap a) q
     (imin (IntKind.i64.wrap c) (@Nat.cast Int _ q.length))).bud,
     AV.int IntKind.i64
     (progF z L (0 : Int) (IntKind.i64.wrap a) q
     (imin (IntKind.i64.wrap c) (@Nat.cast Int _ q.length))).e]),
     ((51 : Nat),
     AV.agg
     [AV.int IntKind.i64
     (progF z L (0 : Int) (IntKind.i64.wrap a) q
     (imin (IntKind.i64.wrap c) (@Nat.cast Int _ q.length))).z,
     AV.ints false IntKind.u8
     (progF z L (0 : Int) (IntKind.i64.wrap a) q
     (imin (IntKind.i64.wrap c) (@Nat.cast Int _ q.length))).l]),
     ((52 : Nat),
     AV.int IntKind.i64
     (progF z L (0 : Int) (IntKind.i64.wrap a) q
     (imin (IntKind.i64.wrap c) (@Nat.cast Int _ q.length))).bud),
     ((53 : Nat),
     AV.int IntKind.i64
     (progF z L (0 : Int) (IntKind.i64.wrap a) q
     (imin (IntKind.i64.wrap c) (@Nat.cast Int _ q.length))).e),
     ((54 : Nat),
     AV.tup
     [AV.agg
     [AV.int IntKind.i64
     (progF
     (progF z L (0 : Int) (IntKind.i64.wrap a) q
     (imin (IntKind.i64.wrap c) (@Nat.cast Int _ q.length))).z
     (progF z L (0 : Int) (IntKind.i64.wrap a) q
     (imin (IntKind.i64.wrap c) (@Nat.cast Int _ q.length))).l
     (0 : Int)
     (IntKind.i64.wrap
     (IntKind.i64.wrap a + imin (IntKind.i64.wrap c) (@Nat.cast Int _ q.length)))
     (List.drop (imin (IntKind.i64.wrap c) (@Nat.cast Int _ q.length)).toNat q) (-1 : Int)).z,
     AV.ints false IntKind.u8
     (progF
     (progF z L (0 : Int) (IntKind.i64.wrap a) q
     (imin (IntKind.i64.wrap c) (@Nat.cast Int _ q.length))).z
     (progF z L (0 : Int) (IntKind.i64.wrap a) q
     (imin (IntKind.i64.wrap c) (@Nat.cast Int _ q.length))).l
     (0 : Int)
     (IntKind.i64.wrap
     (IntKind.i64.wrap a + imin (IntKind.i64.wrap c) (@Nat.cast Int _ q.length)))
     (List.drop (imin (IntKind.i64.wrap c) (@Nat.cast Int _ q.length)).toNat q) (-1 : Int)).l],
     AV.int IntKind.i64
     (progF
     (progF z L (0 : Int) (IntKind.i64.wrap a) q
     (imin (IntKind.i64.wrap c) (@Nat.cast Int _ q.length))).z
     (progF z L (0 : Int) (IntKind.i64.wrap a) q
     (imin (IntKind.i64.wrap c) (@Nat.cast Int _ q.length))).l
     (0 : Int)
     (IntKind.i64.wrap (IntKind.i64.wrap a + imin (IntKind.i64.wrap c) (@Nat.cast Int _ q.length)))
     (List.drop (imin (IntKind.i64.wrap c) (@Nat.cast Int _ q.length)).toNat q) (-1 : Int)).bud,
     AV.int IntKind.i64
     (progF
     (progF z L (0 : Int) (IntKind.i64.wrap a) q
     (imin (IntKind.i64.wrap c) (@Nat.cast Int _ q.length))).z
     (progF z L (0 : Int) (IntKind.i64.wrap a) q
     (imin (IntKind.i64.wrap c) (@Nat.cast Int _ q.length))).l
     (0 : Int)
     (IntKind.i64.wrap (IntKind.i64.wrap a + imin (IntKind.i64.wrap c) (@Nat.cast Int _ q.length)))
     (List.drop (imin (IntKind.i64.wrap c) (@Nat.cast Int _ q.length)).toNat q) (-1 : Int)).e]),
     ((55 : Nat),
     AV.agg
     [AV.int IntKind.i64
     (progF z L (0 : Int) (IntKind.i64.wrap a) q
     (imin (IntKind.i64.wrap c) (@Nat.cast Int _ q.length))).z,
     AV.ints false IntKind.u8
     (progF z L (0 : Int) (IntKind.i64.wrap a) q
     (imin (IntKind.i64.wrap c) (@Nat.cast Int _ q.length))).l]),
     ((56 : Nat), AV.int IntKind.u8 a), ((57 : Nat), AV.int IntKind.i64 (IntKind.i64.wrap a)),
     ((58 : Nat), AV.int IntKind.i64 (imin (IntKind.i64.wrap c) (@Nat.cast Int _ q.length))),
     ((59 : Nat),
     AV.int IntKind.i64
     (IntKind.i64.wrap (IntKind.i64.wrap a + imin (IntKind.i64.wrap c) (@Nat.cast Int _ q.length)))),
     ((60 : Nat), AV.ints false IntKind.u8 q),
     ((61 : Nat), AV.int IntKind.i64 (imin (IntKind.i64.wrap c) (@Nat.cast Int _ q.length))),
     ((62 : Nat),
     AV.ints false IntKind.u8 (List.drop (imin (IntKind.i64.wrap c) (@Nat.cast Int _ q.length)).toNat q)),
     ((63 : Nat),
     AV.tup
     [AV.agg
     [AV.int IntKind.i64
     (progF
     (progF z L (0 : Int) (IntKind.i64.wrap a) q
     (imin (IntKind.i64.wrap c) (@Nat.cast Int _ q.length))).z
     (progF z L (0 : Int) (IntKind.i64.wrap a) q
     (imin (IntKind.i64.wrap c) (@Nat.cast Int _ q.length))).l
     (0 : Int)
     (IntKind.i64.wrap
     (IntKind.i64.wrap a + imin (IntKind.i64.wrap c) (@Nat.cast Int _ q.length)))
     (List.drop (imin (IntKind.i64.wrap c) (@Nat.cast Int _ q.length)).toNat q) (-1 : Int)).z,
     AV.ints false IntKind.u8
     (progF
     (progF z L (0 : Int) (IntKind.i64.wrap a) q
     (imin (IntKind.i64.wrap c) (@Nat.cast Int _ q.length))).z
     (progF z L (0 : Int) (IntKind.i64.wrap a) q
     (imin (IntKind.i64.wrap c) (@Nat.cast Int _ q.length))).l
     (0 : Int)
     (IntKind.i64.wrap
     (IntKind.i64.wrap a + imin (IntKind.i64.wrap c) (@Nat.cast Int _ q.length)))
     (List.drop (imin (IntKind.i64.wrap c) (@Nat.cast Int _ q.length)).toNat q) (-1 : Int)).l],
     AV.int IntKind.i64
     (progF
     (progF z L (0 : Int) (IntKind.i64.wrap a) q
     (imin (IntKind.i64.wrap c) (@Nat.cast Int _ q.length))).z
     (progF z L (0 : Int) (IntKind.i64.wrap a) q
     (imin (IntKind.i64.wrap c) (@Nat.cast Int _ q.length))).l
     (0 : Int)
     (IntKind.i64.wrap (IntKind.i64.wrap a + imin (IntKind.i64.wrap c) (@Nat.cast Int _ q.length)))
     (List.drop (imin (IntKind.i64.wrap c) (@Nat.cast Int _ q.length)).toNat q) (-1 : Int)).bud,
     AV.int IntKind.i64
     (progF
     (progF z L (0 : Int) (IntKind.i64.wrap a) q
     (imin (IntKind.i64.wrap c) (@Nat.cast Int _ q.length))).z
     (progF z L (0 : Int) (IntKind.i64.wrap a) q
     (imin (IntKind.i64.wrap c) (@Nat.cast Int _ q.length))).l
     (0 : Int)
     (IntKind.i64.wrap (IntKind.i64.wrap a + imin (IntKind.i64.wrap c) (@Nat.cast Int _ q.length)))
     (List.drop (imin (IntKind.i64.wrap c) (@Nat.cast Int _ q.length)).toNat q) (-1 : Int)).e]),
     ((64 : Nat),
     AV.agg
     [AV.int IntKind.i64
     (progF
     (progF z L (0 : Int) (IntKind.i64.wrap a) q
     (imin (IntKind.i64.wrap c) (@Nat.cast Int _ q.length))).z
     (progF z L (0 : Int) (IntKind.i64.wrap a) q
     (imin (IntKind.i64.wrap c) (@Nat.cast Int _ q.length))).l
     (0 : Int)
     (IntKind.i64.wrap (IntKind.i64.wrap a + imin (IntKind.i64.wrap c) (@Nat.cast Int _ q.length)))
     (List.drop (imin (IntKind.i64.wrap c) (@Nat.cast Int _ q.length)).toNat q) (-1 : Int)).z,
     AV.ints false IntKind.u8
     (progF
     (progF z L (0 : Int) (IntKind.i64.wrap a) q
     (imin (IntKind.i64.wrap c) (@Nat.cast Int _ q.length))).z
     (progF z L (0 : Int) (IntKind.i64.wrap a) q
     (imin (IntKind.i64.wrap c) (@Nat.cast Int _ q.length))).l
     (0 : Int)
     (IntKind.i64.wrap (IntKind.i64.wrap a + imin (IntKind.i64.wrap c) (@Nat.cast Int _ q.length)))
     (List.drop (imin (IntKind.i64.wrap c) (@Nat.cast Int _ q.length)).toNat q) (-1 : Int)).l]),
     ((65 : Nat),
     AV.int IntKind.i64
     (progF
     (progF z L (0 : Int) (IntKind.i64.wrap a) q
     (imin (IntKind.i64.wrap c) (@Nat.cast Int _ q.length))).z
     (progF z L (0 : Int) (IntKind.i64.wrap a) q
     (imin (IntKind.i64.wrap c) (@Nat.cast Int _ q.length))).l
     (0 : Int)
     (IntKind.i64.wrap (IntKind.i64.wrap a + imin (IntKind.i64.wrap c) (@Nat.cast Int _ q.length)))
     (List.drop (imin (IntKind.i64.wrap c) (@Nat.cast Int _ q.length)).toNat q) (-1 : Int)).bud),
     ((66 : Nat),
     AV.int IntKind.i64
     (progF
     (progF z L (0 : Int) (IntKind.i64.wrap a) q
     (imin (IntKind.i64.wrap c) (@Nat.cast Int _ q.length))).z
     (progF z L (0 : Int) (IntKind.i64.wrap a) q
     (imin (IntKind.i64.wrap c) (@Nat.cast Int _ q.length))).l
     (0 : Int)
     (IntKind.i64.wrap (IntKind.i64.wrap a + imin (IntKind.i64.wrap c) (@Nat.cast Int _ q.length)))
     (List.drop (imin (IntKind.i64.wrap c) (@Nat.cast Int _ q.length)).toNat q) (-1 : Int)).e)]
     [((11 : Nat), AV.box (24 : Nat) [AV.int IntKind.i64 z, AV.ints false IntKind.u8 L]),
     ((13 : Nat),
     AV.box (24 : Nat)
     [AV.int IntKind.i64 (progF z L (0 : Int) (IntKind.i64.wrap a) q (-1 : Int)).z,
     AV.ints false IntKind.u8 (progF z L (0 : Int) (IntKind.i64.wrap a) q (-1 : Int)).l]),
     ((16 : Nat),
     AV.box (24 : Nat)
     [AV.int IntKind.i64
     (progF z L (0 : Int) (IntKind.i64.wrap a) q
     (imin (IntKind.i64.wrap c) (@Nat.cast Int _ q.length))).z,
     AV.ints false IntKind.u8
     (progF z L (0 : Int) (IntKind.i64.wrap a) q
     (imin (IntKind.i64.wrap c) (@Nat.cast Int _ q.length))).l]),
     ((19 : Nat),
     AV.box (24 : Nat)
     [AV.int IntKind.i64
     (progF
     (progF z L (0 : Int) (IntKind.i64.wrap a) q
     (imin (IntKind.i64.wrap c) (@Nat.cast Int _ q.length))).z
     (progF z L (0 : Int) (IntKind.i64.wrap a) q
     (imin (IntKind.i64.wrap c) (@Nat.cast Int _ q.length))).l
     (0 : Int)
     (IntKind.i64.wrap (IntKind.i64.wrap a + imin (IntKind.i64.wrap c) (@Nat.cast Int _ q.length)))
     (List.drop (imin (IntKind.i64.wrap c) (@Nat.cast Int _ q.length)).toNat q) (-1 : Int)).z,
     AV.ints false IntKind.u8
     (progF
     (progF z L (0 : Int) (IntKind.i64.wrap a) q
     (imin (IntKind.i64.wrap c) (@Nat.cast Int _ q.length))).z
     (progF z L (0 : Int) (IntKind.i64.wrap a) q
     (imin (IntKind.i64.wrap c) (@Nat.cast Int _ q.length))).l
     (0 : Int)
     (IntKind.i64.wrap (IntKind.i64.wrap a + imin (IntKind.i64.wrap c) (@Nat.cast Int _ q.length)))
     (List.drop (imin (IntKind.i64.wrap c) (@Nat.cast Int _ q.length)).toNat q) (-1 : Int)).l])]) →
     K
     (AS.mk
     [((0 : Nat), AV.int IntKind.i64 n), ((1 : Nat), AV.ints false IntKind.i64 l),
     ((2 : Nat), AV.int IntKind.u8 a), ((3 : Nat), AV.ints false IntKind.u8 q),
     ((4 : Nat), AV.int IntKind.u8 c), ((10 : Nat), AV.bool false),
     ((11 : Nat), AV.ptr (11 : Nat) (0 : Nat) (0 : Nat)),
     ((12 : Nat), AV.int IntKind.i64 (imin (IntKind.i64.wrap c) (@Nat.cast Int _ q.length))),
     ((13 : Nat), AV.ptr (13 : Nat) (0 : Nat) (0 : Nat)),
     ((14 : Nat), AV.int IntKind.i64 (progF z L (0 : Int) (IntKind.i64.wrap a) q (-1 : Int)).bud),
     ((15 : Nat), AV.int IntKind.i64 (progF z L (0 : Int) (IntKind.i64.wrap a) q (-1 : Int)).e),
     ((16 : Nat), AV.ptr (16 : Nat) (0 : Nat) (0 : Nat)),
     ((17 : Nat),
     AV.int IntKind.i64
     (progF z L (0 : Int) (IntKind.i64.wrap a) q
     (imin (IntKind.i64.wrap c) (@Nat.cast Int _ q.length))).bud),
     ((18 : Nat),
     AV.int IntKind.i64
     (progF z L (0 : Int) (IntKind.i64.wrap a) q
     (imin (IntKind.i64.wrap c) (@Nat.cast Int _ q.length))).e),
     ((19 : Nat), AV.ptr (19 : Nat) (0 : Nat) (0 : Nat)),
     ((20 : Nat),
     AV.int IntKind.i64
     (progF
     (progF z L (0 : Int) (IntKind.i64.wrap a) q
     (imin (IntKind.i64.wrap c) (@Nat.cast Int _ q.length))).z
     (progF z L (0 : Int) (IntKind.i64.wrap a) q
     (imin (IntKind.i64.wrap c) (@Nat.cast Int _ q.length))).l
     (0 : Int)
     (IntKind.i64.wrap (IntKind.i64.wrap a + imin (IntKind.i64.wrap c) (@Nat.cast Int _ q.length)))
     (List.drop (imin (IntKind.i64.wrap c) (@Nat.cast Int _ q.length)).toNat q) (-1 : Int)).bud),
     ((21 : Nat),
     AV.int IntKind.i64
     (progF
     (progF z L (0 : Int) (IntKind.i64.wrap a) q
     (imin (IntKind.i64.wrap c) (@Nat.cast Int _ q.length))).z
     (progF z L (0 : Int) (IntKind.i64.wrap a) q
     (imin (IntKind.i64.wrap c) (@Nat.cast Int _ q.length))).l
     (0 : Int)
     (IntKind.i64.wrap (IntKind.i64.wrap a + imin (IntKind.i64.wrap c) (@Nat.cast Int _ q.length)))
     (List.drop (imin (IntKind.i64.wrap c) (@Nat.cast Int _ q.length)).toNat q) (-1 : Int)).e),
     ((23 : Nat), AV.ints false IntKind.u8 q), ((24 : Nat), AV.int IntKind.i64 (@Nat.cast Int _ q.length)),
     ((25 : Nat), AV.bool false), ((27 : Nat), AV.int IntKind.i64 n),
     ((28 : Nat), AV.ints false IntKind.i64 l),
     ((29 : Nat), AV.agg [AV.int IntKind.i64 z, AV.ints false IntKind.u8 L]),
     ((30 : Nat), AV.int IntKind.u8 c), ((31 : Nat), AV.int IntKind.i64 (IntKind.i64.wrap c)),
     ((32 : Nat), AV.ints false IntKind.u8 q), ((33 : Nat), AV.int IntKind.i64 (@Nat.cast Int _ q.length)),
     ((34 : Nat), AV.int IntKind.i64 (imin (IntKind.i64.wrap c) (@Nat.cast Int _ q.length))),
     ((35 : Nat),
     AV.tup
     [AV.agg
     [AV.int IntKind.i64 (progF z L (0 : Int) (IntKind.i64.wrap a) q (-1 : Int)).z,
     AV.ints false IntKind.u8 (progF z L (0 : Int) (IntKind.i64.wrap a) q (-1 : Int)).l],
     AV.int IntKind.i64 (progF z L (0 : Int) (IntKind.i64.wrap a) q (-1 : Int)).bud,
     AV.int IntKind.i64 (progF z L (0 : Int) (IntKind.i64.wrap a) q (-1 : Int)).e]),
     ((36 : Nat), AV.agg [AV.int IntKind.i64 z, AV.ints false IntKind.u8 L]),
     ((37 : Nat), AV.int IntKind.u8 a), ((38 : Nat), AV.int IntKind.i64 (IntKind.i64.wrap a)),
     ((39 : Nat), AV.ints false IntKind.u8 q),
     ((40 : Nat),
     AV.tup
     [AV.agg
     [AV.int IntKind.i64 (progF z L (0 : Int) (IntKind.i64.wrap a) q (-1 : Int)).z,
     AV.ints false IntKind.u8 (progF z L (0 : Int) (IntKind.i64.wrap a) q (-1 : Int)).l],
     AV.int IntKind.i64 (progF z L (0 : Int) (IntKind.i64.wrap a) q (-1 : Int)).bud,
     AV.int IntKind.i64 (progF z L (0 : Int) (IntKind.i64.wrap a) q (-1 : Int)).e]),
     ((41 : Nat),
     AV.agg
     [AV.int IntKind.i64 (progF z L (0 : Int) (IntKind.i64.wrap a) q (-1 : Int)).z,
     AV.ints false IntKind.u8 (progF z L (0 : Int) (IntKind.i64.wrap a) q (-1 : Int)).l]),
     ((42 : Nat), AV.int IntKind.i64 (progF z L (0 : Int) (IntKind.i64.wrap a) q (-1 : Int)).bud),
     ((43 : Nat), AV.int IntKind.i64 (progF z L (0 : Int) (IntKind.i64.wrap a) q (-1 : Int)).e),
     ((44 : Nat),
     AV.tup
     [AV.agg
     [AV.int IntKind.i64
     (progF z L (0 : Int) (IntKind.i64.wrap a) q
     (imin (IntKind.i64.wrap c) (@Nat.cast Int _ q.length))).z,
     AV.ints false IntKind.u8
     (progF z L (0 : Int) (IntKind.i64.wrap a) q
     (imin (IntKind.i64.wrap c) (@Nat.cast Int _ q.length))).l],
     AV.int IntKind.i64
     (progF z L (0 : Int) (IntKind.i64.wrap a) q
     (imin (IntKind.i64.wrap c) (@Nat.cast Int _ q.length))).bud,
     AV.int IntKind.i64
     (progF z L (0 : Int) (IntKind.i64.wrap a) q
     (imin (IntKind.i64.wrap c) (@Nat.cast Int _ q.length))).e]),
     ((45 : Nat), AV.agg [AV.int IntKind.i64 z, AV.ints false IntKind.u8 L]),
     ((46 : Nat), AV.int IntKind.u8 a), ((47 : Nat), AV.int IntKind.i64 (IntKind.i64.wrap a)),
     ((48 : Nat), AV.ints false IntKind.u8 q),
     ((49 : Nat), AV.int IntKind.i64 (imin (IntKind.i64.wrap c) (@Nat.cast Int _ q.length))),
     ((50 : Nat),
     AV.tup
     [AV.agg
     [AV.int IntKind.i64
     (progF z L (0 : Int) (IntKind.i64.wrap a) q
     (imin (IntKind.i64.wrap c) (@Nat.cast Int _ q.length))).z,
     AV.ints false IntKind.u8
     (progF z L (0 : Int) (IntKind.i64.wrap a) q
     (imin (IntKind.i64.wrap c) (@Nat.cast Int _ q.length))).l],
     AV.int IntKind.i64
     (progF z L (0 : Int) (IntKind.i64.wrap a) q
     (imin (IntKind.i64.wrap c) (@Nat.cast Int _ q.length))).bud,
     AV.int IntKind.i64
     (progF z L (0 : Int) (IntKind.i64.wrap a) q
     (imin (IntKind.i64.wrap c) (@Nat.cast Int _ q.length))).e]),
     ((51 : Nat),
     AV.agg
     [AV.int IntKind.i64
     (progF z L (0 : Int) (IntKind.i64.wrap a) q
     (imin (IntKind.i64.wrap c) (@Nat.cast Int _ q.length))).z,
     AV.ints false IntKind.u8
     (progF z L (0 : Int) (IntKind.i64.wrap a) q
     (imin (IntKind.i64.wrap c) (@Nat.cast Int _ q.length))).l]),
     ((52 : Nat),
     AV.int IntKind.i64
     (progF z L (0 : Int) (IntKind.i64.wrap a) q
     (imin (IntKind.i64.wrap c) (@Nat.cast Int _ q.length))).bud),
     ((53 : Nat),
     AV.int IntKind.i64
     (progF z L (0 : Int) (IntKind.i64.wrap a) q
     (imin (IntKind.i64.wrap c) (@Nat.cast Int _ q.length))).e),
     ((54 : Nat),
     AV.tup
     [AV.agg
     [AV.int IntKind.i64
     (progF
     (progF z L (0 : Int) (IntKind.i64.wrap a) q
     (imin (IntKind.i64.wrap c) (@Nat.cast Int _ q.length))).z
     (progF z L (0 : Int) (IntKind.i64.wrap a) q
     (imin (IntKind.i64.wrap c) (@Nat.cast Int _ q.length))).l
     (0 : Int)
     (IntKind.i64.wrap
     (IntKind.i64.wrap a + imin (IntKind.i64.wrap c) (@Nat.cast Int _ q.length)))
     (List.drop (imin (IntKind.i64.wrap c) (@Nat.cast Int _ q.length)).toNat q) (-1 : Int)).z,
     AV.ints false IntKind.u8
     (progF
     (progF z L (0 : Int) (IntKind.i64.wrap a) q
     (imin (IntKind.i64.wrap c) (@Nat.cast Int _ q.length))).z
     (progF z L (0 : Int) (IntKind.i64.wrap a) q
     (imin (IntKind.i64.wrap c) (@Nat.cast Int _ q.length))).l
     (0 : Int)
     (IntKind.i64.wrap
     (IntKind.i64.wrap a + imin (IntKind.i64.wrap c) (@Nat.cast Int _ q.length)))
     (List.drop (imin (IntKind.i64.wrap c) (@Nat.cast Int _ q.length)).toNat q) (-1 : Int)).l],
     AV.int IntKind.i64
     (progF
     (progF z L (0 : Int) (IntKind.i64.wrap a) q
     (imin (IntKind.i64.wrap c) (@Nat.cast Int _ q.length))).z
     (progF z L (0 : Int) (IntKind.i64.wrap a) q
     (imin (IntKind.i64.wrap c) (@Nat.cast Int _ q.length))).l
     (0 : Int)
     (IntKind.i64.wrap (IntKind.i64.wrap a + imin (IntKind.i64.wrap c) (@Nat.cast Int _ q.length)))
     (List.drop (imin (IntKind.i64.wrap c) (@Nat.cast Int _ q.length)).toNat q) (-1 : Int)).bud,
     AV.int IntKind.i64
     (progF
     (progF z L (0 : Int) (IntKind.i64.wrap a) q
     (imin (IntKind.i64.wrap c) (@Nat.cast Int _ q.length))).z
     (progF z L (0 : Int) (IntKind.i64.wrap a) q
     (imin (IntKind.i64.wrap c) (@Nat.cast Int _ q.length))).l
     (0 : Int)
     (IntKind.i64.wrap (IntKind.i64.wrap a + imin (IntKind.i64.wrap c) (@Nat.cast Int _ q.length)))
     (List.drop (imin (IntKind.i64.wrap c) (@Nat.cast Int _ q.length)).toNat q) (-1 : Int)).e]),
     ((55 : Nat),
     AV.agg
     [AV.int IntKind.i64
     (progF z L (0 : Int) (IntKind.i64.wrap a) q
     (imin (IntKind.i64.wrap c) (@Nat.cast Int _ q.length))).z,
     AV.ints false IntKind.u8
     (progF z L (0 : Int) (IntKind.i64.wrap a) q
     (imin (IntKind.i64.wrap c) (@Nat.cast Int _ q.length))).l]),
     ((56 : Nat), AV.int IntKind.u8 a), ((57 : Nat), AV.int IntKind.i64 (IntKind.i64.wrap a)),
     ((58 : Nat), AV.int IntKind.i64 (imin (IntKind.i64.wrap c) (@Nat.cast Int _ q.length))),
     ((59 : Nat),
     AV.int IntKind.i64
     (IntKind.i64.wrap (IntKind.i64.wrap a + imin (IntKind.i64.wrap c) (@Nat.cast Int _ q.length)))),
     ((60 : Nat), AV.ints false IntKind.u8 q),
     ((61 : Nat), AV.int IntKind.i64 (imin (IntKind.i64.wrap c) (@Nat.cast Int _ q.length))),
     ((62 : Nat),
     AV.ints false IntKind.u8 (List.drop (imin (IntKind.i64.wrap c) (@Nat.cast Int _ q.length)).toNat q)),
     ((63 : Nat),
     AV.tup
     [AV.agg
     [AV.int IntKind.i64
     (progF
     (progF z L (0 : Int) (IntKind.i64.wrap a) q
     (imin (IntKind.i64.wrap c) (@Nat.cast Int _ q.length))).z
     (progF z L (0 : Int) (IntKind.i64.wrap a) q
     (imin (IntKind.i64.wrap c) (@Nat.cast Int _ q.length))).l
     (0 : Int)
     (IntKind.i64.wrap
     (IntKind.i64.wrap a + imin (IntKind.i64.wrap c) (@Nat.cast Int _ q.length)))
     (List.drop (imin (IntKind.i64.wrap c) (@Nat.cast Int _ q.length)).toNat q) (-1 : Int)).z,
     AV.ints false IntKind.u8
     (progF
     (progF z L (0 : Int) (IntKind.i64.wrap a) q
     (imin (IntKind.i64.wrap c) (@Nat.cast Int _ q.length))).z
     (progF z L (0 : Int) (IntKind.i64.wrap a) q
     (imin (IntKind.i64.wrap c) (@Nat.cast Int _ q.length))).l
     (0 : Int)
     (IntKind.i64.wrap
     (IntKind.i64.wrap a + imin (IntKind.i64.wrap c) (@Nat.cast Int _ q.length)))
     (List.drop (imin (IntKind.i64.wrap c) (@Nat.cast Int _ q.length)).toNat q) (-1 : Int)).l],
     AV.int IntKind.i64
     (progF
     (progF z L (0 : Int) (IntKind.i64.wrap a) q
     (imin (IntKind.i64.wrap c) (@Nat.cast Int _ q.length))).z
     (progF z L (0 : Int) (IntKind.i64.wrap a) q
     (imin (IntKind.i64.wrap c) (@Nat.cast Int _ q.length))).l
     (0 : Int)
     (IntKind.i64.wrap (IntKind.i64.wrap a + imin (IntKind.i64.wrap c) (@Nat.cast Int _ q.length)))
     (List.drop (imin (IntKind.i64.wrap c) (@Nat.cast Int _ q.length)).toNat q) (-1 : Int)).bud,
     AV.int IntKind.i64
     (progF
     (progF z L (0 : Int) (IntKind.i64.wrap a) q
     (imin (IntKind.i64.wrap c) (@Nat.cast Int _ q.length))).z
     (progF z L (0 : Int) (IntKind.i64.wrap a) q
     (imin (IntKind.i64.wrap c) (@Nat.cast Int _ q.length))).l
     (0 : Int)
     (IntKind.i64.wrap (IntKind.i64.wrap a + imin (IntKind.i64.wrap c) (@Nat.cast Int _ q.length)))
     (List.drop (imin (IntKind.i64.wrap c) (@Nat.cast Int _ q.length)).toNat q) (-1 : Int)).e]),
     ((64 : Nat),
     AV.agg
     [AV.int IntKind.i64
     (progF
     (progF z L (0 : Int) (IntKind.i64.wrap a) q
     (imin (IntKind.i64.wrap c) (@Nat.cast Int _ q.length))).z
     (progF z L (0 : Int) (IntKind.i64.wrap a) q
     (imin (IntKind.i64.wrap c) (@Nat.cast Int _ q.length))).l
     (0 : Int)
     (IntKind.i64.wrap (IntKind.i64.wrap a + imin (IntKind.i64.wrap c) (@Nat.cast Int _ q.length)))
     (List.drop (imin (IntKind.i64.wrap c) (@Nat.cast Int _ q.length)).toNat q) (-1 : Int)).z,
     AV.ints false IntKind.u8
     (progF
     (progF z L (0 : Int) (IntKind.i64.wrap a) q
     (imin (IntKind.i64.wrap c) (@Nat.cast Int _ q.length))).z
     (progF z L (0 : Int) (IntKind.i64.wrap a) q
     (imin (IntKind.i64.wrap c) (@Nat.cast Int _ q.length))).l
     (0 : Int)
     (IntKind.i64.wrap (IntKind.i64.wrap a + imin (IntKind.i64.wrap c) (@Nat.cast Int _ q.length)))
     (List.drop (imin (IntKind.i64.wrap c) (@Nat.cast Int _ q.length)).toNat q) (-1 : Int)).l]),
     ((65 : Nat),
     AV.int IntKind.i64
     (progF
     (progF z L (0 : Int) (IntKind.i64.wrap a) q
     (imin (IntKind.i64.wrap c) (@Nat.cast Int _ q.length))).z
     (progF z L (0 : Int) (IntKind.i64.wrap a) q
     (imin (IntKind.i64.wrap c) (@Nat.cast Int _ q.length))).l
     (0 : Int)
     (IntKind.i64.wrap (IntKind.i64.wrap a + imin (IntKind.i64.wrap c) (@Nat.cast Int _ q.length)))
     (List.drop (imin (IntKind.i64.wrap c) (@Nat.cast Int _ q.length)).toNat q) (-1 : Int)).bud),
     ((66 : Nat),
     AV.int IntKind.i64
     (progF
     (progF z L (0 : Int) (IntKind.i64.wrap a) q
     (imin (IntKind.i64.wrap c) (@Nat.cast Int _ q.length))).z
     (progF z L (0 : Int) (IntKind.i64.wrap a) q
     (imin (IntKind.i64.wrap c) (@Nat.cast Int _ q.length))).l
     (0 : Int)
     (IntKind.i64.wrap (IntKind.i64.wrap a + imin (IntKind.i64.wrap c) (@Nat.cast Int _ q.length)))
     (List.drop (imin (IntKind.i64.wrap c) (@Nat.cast Int _ q.length)).toNat q) (-1 : Int)).e)]
     [((11 : Nat), AV.box (24 : Nat) [AV.int IntKind.i64 z, AV.ints false IntKind.u8 L]),
     ((13 : Nat),
     AV.box (24 : Nat)
     [AV.int IntKind.i64 (progF z L (0 : Int) (IntKind.i64.wrap a) q (-1 : Int)).z,
     AV.ints false IntKind.u8 (progF z L (0 : Int) (IntKind.i64.wrap a) q (-1 : Int)).l]),
     ((16 : Nat),
     AV.box (24 : Nat)
     [AV.int IntKind.i64
     (progF z L (0 : Int) (IntKind.i64.wrap a) q
     (imin (IntKind.i64.wrap c) (@Nat.cast Int _ q.length))).z,
     AV.ints false IntKind.u8
     (progF z L (0 : Int) (IntKind.i64.wrap a) q
     (imin (IntKind.i64.wrap c) (@Nat.cast Int _ q.length))).l]),
     ((19 : Nat),
     AV.box (24 : Nat)
     [AV.int IntKind.i64
     (progF
     (progF z L (0 : Int) (IntKind.i64.wrap a) q
     (imin (IntKind.i64.wrap c) (@Nat.cast Int _ q.length))).z
     (progF z L (0 : Int) (IntKind.i64.wrap a) q
     (imin (IntKind.i64.wrap c) (@Nat.cast Int _ q.length))).l
     (0 : Int)
     (IntKind.i64.wrap (IntKind.i64.wrap a + imin (IntKind.i64.wrap c) (@Nat.cast Int _ q.length)))
     (List.drop (imin (IntKind.i64.wrap c) (@Nat.cast Int _ q.length)).toNat q) (-1 : Int)).z,
     AV.ints false IntKind.u8
     (progF
     (progF z L (0 : Int) (IntKind.i64.wrap a) q
     (imin (IntKind.i64.wrap c) (@Nat.cast Int _ q.length))).z
     (progF z L (0 : Int) (IntKind.i64.wrap a) q
     (imin (IntKind.i64.wrap c) (@Nat.cast Int _ q.length))).l
     (0 : Int)
     (IntKind.i64.wrap (IntKind.i64.wrap a + imin (IntKind.i64.wrap c) (@Nat.cast Int _ q.length)))
     (List.drop (imin (IntKind.i64.wrap c) (@Nat.cast Int _ q.length)).toNat q) (-1 : Int)).l])])))) := by kernel_rfl
theorem p6_0 (n a c : Int) (l q : List Int) (post : AV → Option AV → Prop) (hin : InRL [.int .i64 n, .ints false .i64 l, .int .u8 a, .ints false .u8 q, .int .u8 c]) (hie : InRO none) (h : post (.bool true) none) : Ok (runF c6 pm6 Proofs.Try.f6 [.int .i64 n, .ints false .i64 l, .int .u8 a, .ints false .u8 q, .int .u8 c] none (post)) := by
  refine ⟨?_⟩
  rw [t6_0]
  have hin' := hin
  simp only [InRL, InR] at hin'
  have ha := in_u8.1 hin'.2.2.1
  have hcc := in_u8.1 hin'.2.2.2.2.1
  rw [wrap_i64 (n := a) (by omega) (by omega), wrap_i64 (n := c) (by omega) (by omega)]
  refine br_dec (fun _ => h) (fun hq => ?_)
  intro z L hv
  obtain ⟨m, hm, hm2⟩ : ∃ m : Nat, imin c q.length = m ∧ m ≤ q.length := by
    have : 0 ≤ imin c q.length ∧ imin c q.length ≤ q.length := by unfold imin; split <;> omega
    exact ⟨(imin c q.length).toNat, by omega, by omega⟩
  refine chk_of (by rw [hm]; exact cut_lo (by omega) (by omega)) ⟨?_, fun K hK => hK⟩
  have hcut : cutL q (some (m : Int)) none = q.drop m := rfl
  have E1 : progF z L 0 a q (-1) = ⟨z, updF (andG q) L a.toNat 0 q.length, -1, 0⟩ := by
    rw [prog0 hv (by omega) (by omega), chg, chgR, if_neg (by omega), if_neg (by omega)]
    rfl
  have E3 : progF z (updF (andG q) L a.toNat 0 m) 0 (a + m) (q.drop m) (-1) = ⟨z, updF (andG q) L a.toNat 0 q.length, -1, 0⟩ := by
    rw [prog0 (by rw [updF_len]; exact hv) (by omega) (by rw [List.length_drop]; omega), chg, chgR, if_neg (by omega), if_neg (by omega), ← upd_parts q L a.toNat m q.length hm2, show (a + m).toNat = a.toNat + m by omega, List.length_drop]
    rfl
  simp only [hm, hcut, Int.toNat_natCast]
  rw [wrap_i64 (n := a + m) (by omega) (by omega)]
  refine br_eq (fun he => ?_) (fun he => ?_)
  · have E2 : progF z L 0 a q m = ⟨z, updF (andG q) L a.toNat 0 m, 0, 0⟩ := by
      rw [prog0 hv (by omega) (by omega), chg, chgR, if_neg (by omega), if_pos (by omega), show q.length - 0 = m by omega, show (m : Int) - ((q.length : Int) - ((0 : Nat) : Int)) = 0 by omega]
      rfl
    simp only [E1, E2, E3, beq_self_eq_true, br_true]
    first | exact ⟨⟨rfl, rfl⟩, h⟩ | exact ⟨⟨trivial, trivial⟩, h⟩
  · have E2 : progF z L 0 a q m = ⟨z, updF (andG q) L a.toNat 0 m, 0, 16⟩ := by
      rw [prog0 hv (by omega) (by omega), chg, chgR, if_pos (by omega), Int.toNat_natCast]
      rfl
    simp only [E1, E2, E3, beq_self_eq_true, br_true]
    first | exact ⟨⟨rfl, rfl⟩, h⟩ | exact ⟨⟨trivial, trivial⟩, h⟩
theorem k6 : Keeps Proofs.Try.prog 6 S6 := by
  refine ⟨?_, Proofs.Try.f6, by kernel_rfl, by kernel_rfl, by kernel_rfl⟩
  intro args e post h
  unfold S6 at h
  split at h
  · refine Spec.inR fun hin hie => fun_ok' (c := c6) gam_ok (l := u6) a6 rfl mixed_ok (fn := Proofs.Try.f6) (show Proofs.Try.prog.funcs[6]? = some Proofs.Try.f6 by kernel_rfl) (by kernel_rfl) (ls := []) rfl (.inl rfl) trivial (pm := pm6) (by simp [c6]) (by rintro ⟨t, l, h⟩; cases h) ?_
    exact p6_0 _ _ _ _ _ _ hin hie h
  · exact h.elim
end Go.Proofs.Ytnioiijcmdnhaaa.V
