import Derived.Test.YtokeanadhihlfaaPlans
import Derived.Test.YtokeanadhihlfaaMB
import Derived.Test.YtokeanadhihlfaaProg
import Derived.Test.YtokeanadhihlfaaS0
import Derived.Test.YtokeanadhihlfaaS1
import Derived.Test.YtokeanadhihlfaaS2
import Derived.Test.YtokeanadhihlfaaS3
import Derived.Test.YtokeanadhihlfaaS4
import Derived.Test.YtokeanadhihlfaaB1
import Derived.Test.YtokeanadhihlfaaP6
import Derived.Test.YtokeanadhihlfaaL1
import Derived.Test.YtokeanadhihlfaaL2
import Derived.Test.YtokeanadhihlfaaL3
import Derived.Test.YtokeanadhihlfaaL4a
import Derived.Test.YtokeanadhihlfaaPlansB
import Derived.KernelRfl
set_option linter.all false
set_option maxHeartbeats 1000000
namespace Go.Proofs.Ytokeanadhihlfaa.V
open Go
def pm43 : Pm := ⟨[lkS, .s, pkS], .no, [lkS, ouS]⟩
def u43 : List (Nat × Tr) := [(41, S41), (56, S56), (68, S68), (69, S69)]
theorem a43 : AllKeep Proofs.Try.prog u43 := ⟨k41, k56, k68, k69, trivial⟩

def c43 : Cfg := { n := 51, Γ := GamL, C := ofL u43, pm := pmL [(41, pm41), (56, pm56), (68, pm68), (69, pm69)], plan := planB43, L := lpL [], unroll := nmL [], keep := kpL [] }
def S43 : Tr
  | [.agg [.int .i64 kn, .int .i64 kst, .int .u32 ka, .int .i64 kc, .int .i64 kl, .ints false .u8 ks, .int .i64 kq, .int .i64 kt], .int .i64 now, .agg [.int .u32 a, .bool f, .int .i64 b, .int .i64 c, .int .i64 d, .ints false .u8 s]], none, post => chk (decide (ks.length ≤ 100000 ∧ -1000000 ≤ kl ∧ kl ≤ 1000000)) (∀ k' o', recvR ⟨kn, kst, ka, kc, kl, ks, kq, kt⟩ now ⟨a, b, c, d, f, s⟩ = (k', o') → post (.tup [k'.V, o'.V]) none)
  | _, _, _ => False
theorem t43_0 (kn kst ka kc kl kq kt : Int) (ks : List Int) (now : Int) (a b c d : Int) (f : Bool) (s : List Int) (post : AV → Option AV → Prop) : runF c43 pm43 Proofs.Try.f43 [.agg [.int .i64 kn, .int .i64 kst, .int .u32 ka, .int .i64 kc, .int .i64 kl, .ints false .u8 ks, .int .i64 kq, .int .i64 kt], .int .i64 now, .agg [.int .u32 a, .bool f, .int .i64 b, .int .i64 c, .int .i64 d, .ints false .u8 s]] none post = (br (decide (now < (0 : Int)))
     (post
     (AV.tup
     [AV.agg
     [AV.int IntKind.i64 kn, AV.int IntKind.i64 kst, AV.int IntKind.u32 ka, AV.int IntKind.i64 kc,
     AV.int IntKind.i64 kl, AV.ints false IntKind.u8 ks, AV.int IntKind.i64 kq, AV.int IntKind.i64 kt],
     AV.agg [AV.rs false (0 : Nat) [], AV.bool false, AV.ints false IntKind.u8 [], AV.bool false]])
     none)
     (br (decide (now > (1099511627776 : Int)))
     (post
     (AV.tup
     [AV.agg
     [AV.int IntKind.i64 kn, AV.int IntKind.i64 kst, AV.int IntKind.u32 ka, AV.int IntKind.i64 kc,
     AV.int IntKind.i64 kl, AV.ints false IntKind.u8 ks, AV.int IntKind.i64 kq, AV.int IntKind.i64 kt],
     AV.agg [AV.rs false (0 : Nat) [], AV.bool false, AV.ints false IntKind.u8 [], AV.bool false]])
     none)
     (br (chkE f b c d s.length != (0 : Int))
     (post
     (AV.tup
     [AV.agg
     [AV.int IntKind.i64 (tickR (Lk.mk kn kst ka kc kl ks kq kt) now).fst.n,
     AV.int IntKind.i64 (tickR (Lk.mk kn kst ka kc kl ks kq kt) now).fst.st,
     AV.int IntKind.u32 (tickR (Lk.mk kn kst ka kc kl ks kq kt) now).fst.a,
     AV.int IntKind.i64 (tickR (Lk.mk kn kst ka kc kl ks kq kt) now).fst.cmd,
     AV.int IntKind.i64 (tickR (Lk.mk kn kst ka kc kl ks kq kt) now).fst.len,
     AV.ints false IntKind.u8 (tickR (Lk.mk kn kst ka kc kl ks kq kt) now).fst.s,
     AV.int IntKind.i64 (tickR (Lk.mk kn kst ka kc kl ks kq kt) now).fst.q,
     AV.int IntKind.i64 (tickR (Lk.mk kn kst ka kc kl ks kq kt) now).fst.t],
     AV.agg
     [AV.rs false (0 : Nat) (tickR (Lk.mk kn kst ka kc kl ks kq kt) now).snd.ps,
     AV.bool (tickR (Lk.mk kn kst ka kc kl ks kq kt) now).snd.dl,
     AV.ints false IntKind.u8 (tickR (Lk.mk kn kst ka kc kl ks kq kt) now).snd.ms,
     AV.bool (tickR (Lk.mk kn kst ka kc kl ks kq kt) now).snd.cn]])
     none)
     (br (!f)
     (chk
     (decide
     ((tickR (Lk.mk kn kst ka kc kl ks kq kt) now).snd.ps.length ≤ (100000 : Nat) ∧
     (tickR (Lk.mk kn kst ka kc kl ks kq kt) now).fst.s.length ≤ (100000 : Nat) ∧
     s.length ≤ (100000 : Nat) ∧
     (-1000000 : Int) ≤ (tickR (Lk.mk kn kst ka kc kl ks kq kt) now).fst.len ∧
     (tickR (Lk.mk kn kst ka kc kl ks kq kt) now).fst.len ≤ (1000000 : Int) ∧
     (0 : Int) ≤ c ∧ c ≤ (1000000 : Int) ∧ f = false))
     (post
     (AV.tup
     [AV.agg
     [AV.int IntKind.i64
     (nextL
     (Lk.mk (tickR (Lk.mk kn kst ka kc kl ks kq kt) now).fst.n
     (tickR (Lk.mk kn kst ka kc kl ks kq kt) now).fst.st
     (tickR (Lk.mk kn kst ka kc kl ks kq kt) now).fst.a
     (tickR (Lk.mk kn kst ka kc kl ks kq kt) now).fst.cmd
     (tickR (Lk.mk kn kst ka kc kl ks kq kt) now).fst.len
     (tickR (Lk.mk kn kst ka kc kl ks kq kt) now).fst.s
     (tickR (Lk.mk kn kst ka kc kl ks kq kt) now).fst.q
     (tickR (Lk.mk kn kst ka kc kl ks kq kt) now).fst.t)
     (Ou.mk (tickR (Lk.mk kn kst ka kc kl ks kq kt) now).snd.ps
     (tickR (Lk.mk kn kst ka kc kl ks kq kt) now).snd.dl
     (tickR (Lk.mk kn kst ka kc kl ks kq kt) now).snd.ms
     (tickR (Lk.mk kn kst ka kc kl ks kq kt) now).snd.cn)
     now (Rec.mk a b c d f s)).fst.n,
     AV.int IntKind.i64
     (nextL
     (Lk.mk (tickR (Lk.mk kn kst ka kc kl ks kq kt) now).fst.n
     (tickR (Lk.mk kn kst ka kc kl ks kq kt) now).fst.st
     (tickR (Lk.mk kn kst ka kc kl ks kq kt) now).fst.a
     (tickR (Lk.mk kn kst ka kc kl ks kq kt) now).fst.cmd
     (tickR (Lk.mk kn kst ka kc kl ks kq kt) now).fst.len
     (tickR (Lk.mk kn kst ka kc kl ks kq kt) now).fst.s
     (tickR (Lk.mk kn kst ka kc kl ks kq kt) now).fst.q
     (tickR (Lk.mk kn kst ka kc kl ks kq kt) now).fst.t)
     (Ou.mk (tickR (Lk.mk kn kst ka kc kl ks kq kt) now).snd.ps
     (tickR (Lk.mk kn kst ka kc kl ks kq kt) now).snd.dl
     (tickR (Lk.mk kn kst ka kc kl ks kq kt) now).snd.ms
     (tickR (Lk.mk kn kst ka kc kl ks kq kt) now).snd.cn)
     now (Rec.mk a b c d f s)).fst.st,
     AV.int IntKind.u32
     (nextL
     (Lk.mk (tickR (Lk.mk kn kst ka kc kl ks kq kt) now).fst.n
     (tickR (Lk.mk kn kst ka kc kl ks kq kt) now).fst.st
     (tickR (Lk.mk kn kst ka kc kl ks kq kt) now).fst.a
     (tickR (Lk.mk kn kst ka kc kl ks kq kt) now).fst.cmd
     (tickR (Lk.mk kn kst ka kc kl ks kq kt) now).fst.len
     (tickR (Lk.mk kn kst ka kc kl ks kq kt) now).fst.s
     (tickR (Lk.mk kn kst ka kc kl ks kq kt) now).fst.q
     (tickR (Lk.mk kn kst ka kc kl ks kq kt) now).fst.t)
     (Ou.mk (tickR (Lk.mk kn kst ka kc kl ks kq kt) now).snd.ps
     (tickR (Lk.mk kn kst ka kc kl ks kq kt) now).snd.dl
     (tickR (Lk.mk kn kst ka kc kl ks kq kt) now).snd.ms
     (tickR (Lk.mk kn kst ka kc kl ks kq kt) now).snd.cn)
     now (Rec.mk a b c d f s)).fst.a,
     AV.int IntKind.i64
     (nextL
     (Lk.mk (tickR (Lk.mk kn kst ka kc kl ks kq kt) now).fst.n
     (tickR (Lk.mk kn kst ka kc kl ks kq kt) now).fst.st
     (tickR (Lk.mk kn kst ka kc kl ks kq kt) now).fst.a
     (tickR (Lk.mk kn kst ka kc kl ks kq kt) now).fst.cmd
     (tickR (Lk.mk kn kst ka kc kl ks kq kt) now).fst.len
     (tickR (Lk.mk kn kst ka kc kl ks kq kt) now).fst.s
     (tickR (Lk.mk kn kst ka kc kl ks kq kt) now).fst.q
     (tickR (Lk.mk kn kst ka kc kl ks kq kt) now).fst.t)
     (Ou.mk (tickR (Lk.mk kn kst ka kc kl ks kq kt) now).snd.ps
     (tickR (Lk.mk kn kst ka kc kl ks kq kt) now).snd.dl
     (tickR (Lk.mk kn kst ka kc kl ks kq kt) now).snd.ms
     (tickR (Lk.mk kn kst ka kc kl ks kq kt) now).snd.cn)
     now (Rec.mk a b c d f s)).fst.cmd,
     AV.int IntKind.i64
     (nextL
     (Lk.mk (tickR (Lk.mk kn kst ka kc kl ks kq kt) now).fst.n
     (tickR (Lk.mk kn kst ka kc kl ks kq kt) now).fst.st
     (tickR (Lk.mk kn kst ka kc kl ks kq kt) now).fst.a
     (tickR (Lk.mk kn kst ka kc kl ks kq kt) now).fst.cmd
     (tickR (Lk.mk kn kst ka kc kl ks kq kt) now).fst.len
     (tickR (Lk.mk kn kst ka kc kl ks kq kt) now).fst.s
     (tickR (Lk.mk kn kst ka kc kl ks kq kt) now).fst.q
     (tickR (Lk.mk kn kst ka kc kl ks kq kt) now).fst.t)
     (Ou.mk (tickR (Lk.mk kn kst ka kc kl ks kq kt) now).snd.ps
     (tickR (Lk.mk kn kst ka kc kl ks kq kt) now).snd.dl
     (tickR (Lk.mk kn kst ka kc kl ks kq kt) now).snd.ms
     (tickR (Lk.mk kn kst ka kc kl ks kq kt) now).snd.cn)
     now (Rec.mk a b c d f s)).fst.len,
     AV.ints false IntKind.u8
     (nextL
     (Lk.mk (tickR (Lk.mk kn kst ka kc kl ks kq kt) now).fst.n
     (tickR (Lk.mk kn kst ka kc kl ks kq kt) now).fst.st
     (tickR (Lk.mk kn kst ka kc kl ks kq kt) now).fst.a
     (tickR (Lk.mk kn kst ka kc kl ks kq kt) now).fst.cmd
     (tickR (Lk.mk kn kst ka kc kl ks kq kt) now).fst.len
     (tickR (Lk.mk kn kst ka kc kl ks kq kt) now).fst.s
     (tickR (Lk.mk kn kst ka kc kl ks kq kt) now).fst.q
     (tickR (Lk.mk kn kst ka kc kl ks kq kt) now).fst.t)
     (Ou.mk (tickR (Lk.mk kn kst ka kc kl ks kq kt) now).snd.ps
     (tickR (Lk.mk kn kst ka kc kl ks kq kt) now).snd.dl
     (tickR (Lk.mk kn kst ka kc kl ks kq kt) now).snd.ms
     (tickR (Lk.mk kn kst ka kc kl ks kq kt) now).snd.cn)
     now (Rec.mk a b c d f s)).fst.s,
     AV.int IntKind.i64
     (nextL
     (Lk.mk (tickR (Lk.mk kn kst ka kc kl ks kq kt) now).fst.n
     (tickR (Lk.mk kn kst ka kc kl ks kq kt) now).fst.st
     (tickR (Lk.mk kn kst ka kc kl ks kq kt) now).fst.a
     (tickR (Lk.mk kn kst ka kc kl ks kq kt) now).fst.cmd
     (tickR (Lk.mk kn kst ka kc kl ks kq kt) now).fst.len
     (tickR (Lk.mk kn kst ka kc kl ks kq kt) now).fst.s
     (tickR (Lk.mk kn kst ka kc kl ks kq kt) now).fst.q
     (tickR (Lk.mk kn kst ka kc kl ks kq kt) now).fst.t)
     (Ou.mk (tickR (Lk.mk kn kst ka kc kl ks kq kt) now).snd.ps
     (tickR (Lk.mk kn kst ka kc kl ks kq kt) now).snd.dl
     (tickR (Lk.mk kn kst ka kc kl ks kq kt) now).snd.ms
     (tickR (Lk.mk kn kst ka kc kl ks kq kt) now).snd.cn)
     now (Rec.mk a b c d f s)).fst.q,
     AV.int IntKind.i64
     (nextL
     (Lk.mk (tickR (Lk.mk kn kst ka kc kl ks kq kt) now).fst.n
     (tickR (Lk.mk kn kst ka kc kl ks kq kt) now).fst.st
     (tickR (Lk.mk kn kst ka kc kl ks kq kt) now).fst.a
     (tickR (Lk.mk kn kst ka kc kl ks kq kt) now).fst.cmd
     (tickR (Lk.mk kn kst ka kc kl ks kq kt) now).fst.len
     (tickR (Lk.mk kn kst ka kc kl ks kq kt) now).fst.s
     (tickR (Lk.mk kn kst ka kc kl ks kq kt) now).fst.q
     (tickR (Lk.mk kn kst ka kc kl ks kq kt) now).fst.t)
     (Ou.mk (tickR (Lk.mk kn kst ka kc kl ks kq kt) now).snd.ps
     (tickR (Lk.mk kn kst ka kc kl ks kq kt) now).snd.dl
     (tickR (Lk.mk kn kst ka kc kl ks kq kt) now).snd.ms
     (tickR (Lk.mk kn kst ka kc kl ks kq kt) now).snd.cn)
     now (Rec.mk a b c d f s)).fst.t],
     AV.agg
     [AV.rs false (0 : Nat)
     (nextL
     (Lk.mk (tickR (Lk.mk kn kst ka kc kl ks kq kt) now).fst.n
     (tickR (Lk.mk kn kst ka kc kl ks kq kt) now).fst.st
     (tickR (Lk.mk kn kst ka kc kl ks kq kt) now).fst.a
     (tickR (Lk.mk kn kst ka kc kl ks kq kt) now).fst.cmd
     (tickR (Lk.mk kn kst ka kc kl ks kq kt) now).fst.len
     (tickR (Lk.mk kn kst ka kc kl ks kq kt) now).fst.s
     (tickR (Lk.mk kn kst ka kc kl ks kq kt) now).fst.q
     (tickR (Lk.mk kn kst ka kc kl ks kq kt) now).fst.t)
     (Ou.mk (tickR (Lk.mk kn kst ka kc kl ks kq kt) now).snd.ps
     (tickR (Lk.mk kn kst ka kc kl ks kq kt) now).snd.dl
     (tickR (Lk.mk kn kst ka kc kl ks kq kt) now).snd.ms
     (tickR (Lk.mk kn kst ka kc kl ks kq kt) now).snd.cn)
     now (Rec.mk a b c d f s)).snd.ps,
     AV.bool
     (nextL
     (Lk.mk (tickR (Lk.mk kn kst ka kc kl ks kq kt) now).fst.n
     (tickR (Lk.mk kn kst ka kc kl ks kq kt) now).fst.st
     (tickR (Lk.mk kn kst ka kc kl ks kq kt) now).fst.a
     (tickR (Lk.mk kn kst ka kc kl ks kq kt) now).fst.cmd
     (tickR (Lk.mk kn kst ka kc kl ks kq kt) now).fst.len
     (tickR (Lk.mk kn kst ka kc kl ks kq kt) now).fst.s
     (tickR (Lk.mk kn kst ka kc kl ks kq kt) now).fst.q
     (tickR (Lk.mk kn kst ka kc kl ks kq kt) now).fst.t)
     (Ou.mk (tickR (Lk.mk kn kst ka kc kl ks kq kt) now).snd.ps
     (tickR (Lk.mk kn kst ka kc kl ks kq kt) now).snd.dl
     (tickR (Lk.mk kn kst ka kc kl ks kq kt) now).snd.ms
     (tickR (Lk.mk kn kst ka kc kl ks kq kt) now).snd.cn)
     now (Rec.mk a b c d f s)).snd.dl,
     AV.ints false IntKind.u8
     (nextL
     (Lk.mk (tickR (Lk.mk kn kst ka kc kl ks kq kt) now).fst.n
     (tickR (Lk.mk kn kst ka kc kl ks kq kt) now).fst.st
     (tickR (Lk.mk kn kst ka kc kl ks kq kt) now).fst.a
     (tickR (Lk.mk kn kst ka kc kl ks kq kt) now).fst.cmd
     (tickR (Lk.mk kn kst ka kc kl ks kq kt) now).fst.len
     (tickR (Lk.mk kn kst ka kc kl ks kq kt) now).fst.s
     (tickR (Lk.mk kn kst ka kc kl ks kq kt) now).fst.q
     (tickR (Lk.mk kn kst ka kc kl ks kq kt) now).fst.t)
     (Ou.mk (tickR (Lk.mk kn kst ka kc kl ks kq kt) now).snd.ps
     (tickR (Lk.mk kn kst ka kc kl ks kq kt) now).snd.dl
     (tickR (Lk.mk kn kst ka kc kl ks kq kt) now).snd.ms
     (tickR (Lk.mk kn kst ka kc kl ks kq kt) now).snd.cn)
     now (Rec.mk a b c d f s)).snd.ms,
     AV.bool
     (nextL
     (Lk.mk (tickR (Lk.mk kn kst ka kc kl ks kq kt) now).fst.n
     (tickR (Lk.mk kn kst ka kc kl ks kq kt) now).fst.st
     (tickR (Lk.mk kn kst ka kc kl ks kq kt) now).fst.a
     (tickR (Lk.mk kn kst ka kc kl ks kq kt) now).fst.cmd
     (tickR (Lk.mk kn kst ka kc kl ks kq kt) now).fst.len
     (tickR (Lk.mk kn kst ka kc kl ks kq kt) now).fst.s
     (tickR (Lk.mk kn kst ka kc kl ks kq kt) now).fst.q
     (tickR (Lk.mk kn kst ka kc kl ks kq kt) now).fst.t)
     (Ou.mk (tickR (Lk.mk kn kst ka kc kl ks kq kt) now).snd.ps
     (tickR (Lk.mk kn kst ka kc kl ks kq kt) now).snd.dl
     (tickR (Lk.mk kn kst ka kc kl ks kq kt) now).snd.ms
     (tickR (Lk.mk kn kst ka kc kl ks kq kt) now).snd.cn)
     now (Rec.mk a b c d f s)).snd.cn]])
     none))
     (chk
     (decide
     ((tickR (Lk.mk kn kst ka kc kl ks kq kt) now).snd.ps.length ≤ (100000 : Nat) ∧
     (tickR (Lk.mk kn kst ka kc kl ks kq kt) now).fst.s.length ≤ (100000 : Nat) ∧
     s.length ≤ (100000 : Nat) ∧
     (-1000000 : Int) ≤ (tickR (Lk.mk kn kst ka kc kl ks kq kt) now).fst.len ∧
     (tickR (Lk.mk kn kst ka kc kl ks kq kt) now).fst.len ≤ (1000000 : Int) ∧
     (0 : Int) ≤ c ∧ c ≤ (1000000 : Int)))
     (post
     (AV.tup
     [AV.agg
     [AV.int IntKind.i64
     (firstL
     (Lk.mk (tickR (Lk.mk kn kst ka kc kl ks kq kt) now).fst.n
     (tickR (Lk.mk kn kst ka kc kl ks kq kt) now).fst.st
     (tickR (Lk.mk kn kst ka kc kl ks kq kt) now).fst.a
     (tickR (Lk.mk kn kst ka kc kl ks kq kt) now).fst.cmd
     (tickR (Lk.mk kn kst ka kc kl ks kq kt) now).fst.len
     (tickR (Lk.mk kn kst ka kc kl ks kq kt) now).fst.s
     (tickR (Lk.mk kn kst ka kc kl ks kq kt) now).fst.q
     (tickR (Lk.mk kn kst ka kc kl ks kq kt) now).fst.t)
     (Ou.mk (tickR (Lk.mk kn kst ka kc kl ks kq kt) now).snd.ps
     (tickR (Lk.mk kn kst ka kc kl ks kq kt) now).snd.dl
     (tickR (Lk.mk kn kst ka kc kl ks kq kt) now).snd.ms
     (tickR (Lk.mk kn kst ka kc kl ks kq kt) now).snd.cn)
     now (Rec.mk a b c d f s)).fst.n,
     AV.int IntKind.i64
     (firstL
     (Lk.mk (tickR (Lk.mk kn kst ka kc kl ks kq kt) now).fst.n
     (tickR (Lk.mk kn kst ka kc kl ks kq kt) now).fst.st
     (tickR (Lk.mk kn kst ka kc kl ks kq kt) now).fst.a
     (tickR (Lk.mk kn kst ka kc kl ks kq kt) now).fst.cmd
     (tickR (Lk.mk kn kst ka kc kl ks kq kt) now).fst.len
     (tickR (Lk.mk kn kst ka kc kl ks kq kt) now).fst.s
     (tickR (Lk.mk kn kst ka kc kl ks kq kt) now).fst.q
     (tickR (Lk.mk kn kst ka kc kl ks kq kt) now).fst.t)
     (Ou.mk (tickR (Lk.mk kn kst ka kc kl ks kq kt) now).snd.ps
     (tickR (Lk.mk kn kst ka kc kl ks kq kt) now).snd.dl
     (tickR (Lk.mk kn kst ka kc kl ks kq kt) now).snd.ms
     (tickR (Lk.mk kn kst ka kc kl ks kq kt) now).snd.cn)
     now (Rec.mk a b c d f s)).fst.st,
     AV.int IntKind.u32
     (firstL
     (Lk.mk (tickR (Lk.mk kn kst ka kc kl ks kq kt) now).fst.n
     (tickR (Lk.mk kn kst ka kc kl ks kq kt) now).fst.st
     (tickR (Lk.mk kn kst ka kc kl ks kq kt) now).fst.a
     (tickR (Lk.mk kn kst ka kc kl ks kq kt) now).fst.cmd
     (tickR (Lk.mk kn kst ka kc kl ks kq kt) now).fst.len
     (tickR (Lk.mk kn kst ka kc kl ks kq kt) now).fst.s
     (tickR (Lk.mk kn kst ka kc kl ks kq kt) now).fst.q
     (tickR (Lk.mk kn kst ka kc kl ks kq kt) now).fst.t)
     (Ou.mk (tickR (Lk.mk kn kst ka kc kl ks kq kt) now).snd.ps
     (tickR (Lk.mk kn kst ka kc kl ks kq kt) now).snd.dl
     (tickR (Lk.mk kn kst ka kc kl ks kq kt) now).snd.ms
     (tickR (Lk.mk kn kst ka kc kl ks kq kt) now).snd.cn)
     now (Rec.mk a b c d f s)).fst.a,
     AV.int IntKind.i64
     (firstL
     (Lk.mk (tickR (Lk.mk kn kst ka kc kl ks kq kt) now).fst.n
     (tickR (Lk.mk kn kst ka kc kl ks kq kt) now).fst.st
     (tickR (Lk.mk kn kst ka kc kl ks kq kt) now).fst.a
     (tickR (Lk.mk kn kst ka kc kl ks kq kt) now).fst.cmd
     (tickR (Lk.mk kn kst ka kc kl ks kq kt) now).fst.len
     (tickR (Lk.mk kn kst ka kc kl ks kq kt) now).fst.s
     (tickR (Lk.mk kn kst ka kc kl ks kq kt) now).fst.q
     (tickR (Lk.mk kn kst ka kc kl ks kq kt) now).fst.t)
     (Ou.mk (tickR (Lk.mk kn kst ka kc kl ks kq kt) now).snd.ps
     (tickR (Lk.mk kn kst ka kc kl ks kq kt) now).snd.dl
     (tickR (Lk.mk kn kst ka kc kl ks kq kt) now).snd.ms
     (tickR (Lk.mk kn kst ka kc kl ks kq kt) now).snd.cn)
     now (Rec.mk a b c d f s)).fst.cmd,
     AV.int IntKind.i64
     (firstL
     (Lk.mk (tickR (Lk.mk kn kst ka kc kl ks kq kt) now).fst.n
     (tickR (Lk.mk kn kst ka kc kl ks kq kt) now).fst.st
     (tickR (Lk.mk kn kst ka kc kl ks kq kt) now).fst.a
     (tickR (Lk.mk kn kst ka kc kl ks kq kt) now).fst.cmd
     (tickR (Lk.mk kn kst ka kc kl ks kq kt) now).fst.len
     (tickR (Lk.mk kn kst ka kc kl ks kq kt) now).fst.s
     (tickR (Lk.mk kn kst ka kc kl ks kq kt) now).fst.q
     (tickR (Lk.mk kn kst ka kc kl ks kq kt) now).fst.t)
     (Ou.mk (tickR (Lk.mk kn kst ka kc kl ks kq kt) now).snd.ps
     (tickR (Lk.mk kn kst ka kc kl ks kq kt) now).snd.dl
     (tickR (Lk.mk kn kst ka kc kl ks kq kt) now).snd.ms
     (tickR (Lk.mk kn kst ka kc kl ks kq kt) now).snd.cn)
     now (Rec.mk a b c d f s)).fst.len,
     AV.ints false IntKind.u8
     (firstL
     (Lk.mk (tickR (Lk.mk kn kst ka kc kl ks kq kt) now).fst.n
     (tickR (Lk.mk kn kst ka kc kl ks kq kt) now).fst.st
     (tickR (Lk.mk kn kst ka kc kl ks kq kt) now).fst.a
     (tickR (Lk.mk kn kst ka kc kl ks kq kt) now).fst.cmd
     (tickR (Lk.mk kn kst ka kc kl ks kq kt) now).fst.len
     (tickR (Lk.mk kn kst ka kc kl ks kq kt) now).fst.s
     (tickR (Lk.mk kn kst ka kc kl ks kq kt) now).fst.q
     (tickR (Lk.mk kn kst ka kc kl ks kq kt) now).fst.t)
     (Ou.mk (tickR (Lk.mk kn kst ka kc kl ks kq kt) now).snd.ps
     (tickR (Lk.mk kn kst ka kc kl ks kq kt) now).snd.dl
     (tickR (Lk.mk kn kst ka kc kl ks kq kt) now).snd.ms
     (tickR (Lk.mk kn kst ka kc kl ks kq kt) now).snd.cn)
     now (Rec.mk a b c d f s)).fst.s,
     AV.int IntKind.i64
     (firstL
     (Lk.mk (tickR (Lk.mk kn kst ka kc kl ks kq kt) now).fst.n
     (tickR (Lk.mk kn kst ka kc kl ks kq kt) now).fst.st
     (tickR (Lk.mk kn kst ka kc kl ks kq kt) now).fst.a
     (tickR (Lk.mk kn kst ka kc kl ks kq kt) now).fst.cmd
     (tickR (Lk.mk kn kst ka kc kl ks kq kt) now).fst.len
     (tickR (Lk.mk kn kst ka kc kl ks kq kt) now).fst.s
     (tickR (Lk.mk kn kst ka kc kl ks kq kt) now).fst.q
     (tickR (Lk.mk kn kst ka kc kl ks kq kt) now).fst.t)
     (Ou.mk (tickR (Lk.mk kn kst ka kc kl ks kq kt) now).snd.ps
     (tickR (Lk.mk kn kst ka kc kl ks kq kt) now).snd.dl
     (tickR (Lk.mk kn kst ka kc kl ks kq kt) now).snd.ms
     (tickR (Lk.mk kn kst ka kc kl ks kq kt) now).snd.cn)
     now (Rec.mk a b c d f s)).fst.q,
     AV.int IntKind.i64
     (firstL
     (Lk.mk (tickR (Lk.mk kn kst ka kc kl ks kq kt) now).fst.n
     (tickR (Lk.mk kn kst ka kc kl ks kq kt) now).fst.st
     (tickR (Lk.mk kn kst ka kc kl ks kq kt) now).fst.a
     (tickR (Lk.mk kn kst ka kc kl ks kq kt) now).fst.cmd
     (tickR (Lk.mk kn kst ka kc kl ks kq kt) now).fst.len
     (tickR (Lk.mk kn kst ka kc kl ks kq kt) now).fst.s
     (tickR (Lk.mk kn kst ka kc kl ks kq kt) now).fst.q
     (tickR (Lk.mk kn kst ka kc kl ks kq kt) now).fst.t)
     (Ou.mk (tickR (Lk.mk kn kst ka kc kl ks kq kt) now).snd.ps
     (tickR (Lk.mk kn kst ka kc kl ks kq kt) now).snd.dl
     (tickR (Lk.mk kn kst ka kc kl ks kq kt) now).snd.ms
     (tickR (Lk.mk kn kst ka kc kl ks kq kt) now).snd.cn)
     now (Rec.mk a b c d f s)).fst.t],
     AV.agg
     [AV.rs false (0 : Nat)
     (firstL
     (Lk.mk (tickR (Lk.mk kn kst ka kc kl ks kq kt) now).fst.n
     (tickR (Lk.mk kn kst ka kc kl ks kq kt) now).fst.st
     (tickR (Lk.mk kn kst ka kc kl ks kq kt) now).fst.a
     (tickR (Lk.mk kn kst ka kc kl ks kq kt) now).fst.cmd
     (tickR (Lk.mk kn kst ka kc kl ks kq kt) now).fst.len
     (tickR (Lk.mk kn kst ka kc kl ks kq kt) now).fst.s
     (tickR (Lk.mk kn kst ka kc kl ks kq kt) now).fst.q
     (tickR (Lk.mk kn kst ka kc kl ks kq kt) now).fst.t)
     (Ou.mk (tickR (Lk.mk kn kst ka kc kl ks kq kt) now).snd.ps
     (tickR (Lk.mk kn kst ka kc kl ks kq kt) now).snd.dl
     (tickR (Lk.mk kn kst ka kc kl ks kq kt) now).snd.ms
     (tickR (Lk.mk kn kst ka kc kl ks kq kt) now).snd.cn)
     now (Rec.mk a b c d f s)).snd.ps,
     AV.bool
     (firstL
     (Lk.mk (tickR (Lk.mk kn kst ka kc kl ks kq kt) now).fst.n
     (tickR (Lk.mk kn kst ka kc kl ks kq kt) now).fst.st
     (tickR (Lk.mk kn kst ka kc kl ks kq kt) now).fst.a
     (tickR (Lk.mk kn kst ka kc kl ks kq kt) now).fst.cmd
     (tickR (Lk.mk kn kst ka kc kl ks kq kt) now).fst.len
     (tickR (Lk.mk kn kst ka kc kl ks kq kt) now).fst.s
     (tickR (Lk.mk kn kst ka kc kl ks kq kt) now).fst.q
     (tickR (Lk.mk kn kst ka kc kl ks kq kt) now).fst.t)
     (Ou.mk (tickR (Lk.mk kn kst ka kc kl ks kq kt) now).snd.ps
     (tickR (Lk.mk kn kst ka kc kl ks kq kt) now).snd.dl
     (tickR (Lk.mk kn kst ka kc kl ks kq kt) now).snd.ms
     (tickR (Lk.mk kn kst ka kc kl ks kq kt) now).snd.cn)
     now (Rec.mk a b c d f s)).snd.dl,
     AV.ints false IntKind.u8
     (firstL
     (Lk.mk (tickR (Lk.mk kn kst ka kc kl ks kq kt) now).fst.n
     (tickR (Lk.mk kn kst ka kc kl ks kq kt) now).fst.st
     (tickR (Lk.mk kn kst ka kc kl ks kq kt) now).fst.a
     (tickR (Lk.mk kn kst ka kc kl ks kq kt) now).fst.cmd
     (tickR (Lk.mk kn kst ka kc kl ks kq kt) now).fst.len
     (tickR (Lk.mk kn kst ka kc kl ks kq kt) now).fst.s
     (tickR (Lk.mk kn kst ka kc kl ks kq kt) now).fst.q
     (tickR (Lk.mk kn kst ka kc kl ks kq kt) now).fst.t)
     (Ou.mk (tickR (Lk.mk kn kst ka kc kl ks kq kt) now).snd.ps
     (tickR (Lk.mk kn kst ka kc kl ks kq kt) now).snd.dl
     (tickR (Lk.mk kn kst ka kc kl ks kq kt) now).snd.ms
     (tickR (Lk.mk kn kst ka kc kl ks kq kt) now).snd.cn)
     now (Rec.mk a b c d f s)).snd.ms,
     AV.bool
     (firstL
     (Lk.mk (tickR (Lk.mk kn kst ka kc kl ks kq kt) now).fst.n
     (tickR (Lk.mk kn kst ka kc kl ks kq kt) now).fst.st
     (tickR (Lk.mk kn kst ka kc kl ks kq kt) now).fst.a
     (tickR (Lk.mk kn kst ka kc kl ks kq kt) now).fst.cmd
     (tickR (Lk.mk kn kst ka kc kl ks kq kt) now).fst.len
     (tickR (Lk.mk kn kst ka kc kl ks kq kt) now).fst.s
     (tickR (Lk.mk kn kst ka kc kl ks kq kt) now).fst.q
     (tickR (Lk.mk kn kst ka kc kl ks kq kt) now).fst.t)
     (Ou.mk (tickR (Lk.mk kn kst ka kc kl ks kq kt) now).snd.ps
     (tickR (Lk.mk kn kst ka kc kl ks kq kt) now).snd.dl
     (tickR (Lk.mk kn kst ka kc kl ks kq kt) now).snd.ms
     (tickR (Lk.mk kn kst ka kc kl ks kq kt) now).snd.cn)
     now (Rec.mk a b c d f s)).snd.cn]])
     none)))))) := by kernel_rfl
theorem p43_0 (kn kst ka kc kl kq kt : Int) (ks : List Int) (now : Int) (a b c d : Int) (f : Bool) (s : List Int) (post : AV → Option AV → Prop) (hin : InRL [.agg [.int .i64 kn, .int .i64 kst, .int .u32 ka, .int .i64 kc, .int .i64 kl, .ints false .u8 ks, .int .i64 kq, .int .i64 kt], .int .i64 now, .agg [.int .u32 a, .bool f, .int .i64 b, .int .i64 c, .int .i64 d, .ints false .u8 s]]) (hie : InRO none) (h : chk (decide (ks.length ≤ 100000 ∧ -1000000 ≤ kl ∧ kl ≤ 1000000)) (∀ k' o', recvR ⟨kn, kst, ka, kc, kl, ks, kq, kt⟩ now ⟨a, b, c, d, f, s⟩ = (k', o') → post (.tup [k'.V, o'.V]) none)) : Ok (runF c43 pm43 Proofs.Try.f43 [.agg [.int .i64 kn, .int .i64 kst, .int .u32 ka, .int .i64 kc, .int .i64 kl, .ints false .u8 ks, .int .i64 kq, .int .i64 kt], .int .i64 now, .agg [.int .u32 a, .bool f, .int .i64 b, .int .i64 c, .int .i64 d, .ints false .u8 s]] none (post)) := by
  refine ⟨?_⟩
  rw [t43_0]
  obtain ⟨h1, h2⟩ := chk_iff.1 h
  obtain ⟨q1, q2, q3⟩ := of_decide_eq_true h1
  have h3 : retR post (recvR ⟨kn, kst, ka, kc, kl, ks, kq, kt⟩ now ⟨a, b, c, d, f, s⟩) := h2 _ _ rfl
  have hT := tickR_small ⟨kn, kst, ka, kc, kl, ks, kq, kt⟩ now q1 q2 q3
  clear h h1 h2 hin hie
  unfold recvR at h3
  generalize tickR ⟨kn, kst, ka, kc, kl, ks, kq, kt⟩ now = T at *
  obtain ⟨⟨tn, tst, ta, tc, tl, ts, tq, tt⟩, ⟨ups, udl, ums, ucn⟩⟩ := T
  dsimp only at h3 hT ⊢
  by_cases hk : chkE f b c d s.length = 0
  · have ho : okR ⟨a, b, c, d, f, s⟩ := hk
    have e2 := (ok_any ho)
    dsimp only at e2
    cases f
    all_goals simp only [Bool.not_true, Bool.not_false, br_true, br_false]
    all_goals (repeat' first
      | with_reducible refine br_ne (fun _ => ?_) (fun _ => ?_)
      | with_reducible refine br_eq (fun _ => ?_) (fun _ => ?_)
      | with_reducible refine br_dec (fun _ => ?_) (fun _ => ?_)
      | with_reducible refine br_not (br_dec (fun _ => ?_) (fun _ => ?_))
      | with_reducible refine chk_dec (by omega) ?_
      | with_reducible refine chk_dec ⟨by omega, by omega, by omega, by omega, by omega, by omega, by omega, by first | exact trivial | rfl⟩ ?_)
    all_goals first | (exfalso; omega) | skip
    all_goals (repeat first | rw [if_pos (by omega)] at h3 | rw [if_neg (by omega)] at h3 | rw [if_pos rfl] at h3 | rw [if_neg (by decide)] at h3)
    all_goals exact h3
  · repeat' first
    | with_reducible refine br_ne (fun _ => ?_) (fun _ => ?_)
    | with_reducible refine br_eq (fun _ => ?_) (fun _ => ?_)
    | with_reducible refine br_dec (fun _ => ?_) (fun _ => ?_)
    | with_reducible refine br_not (br_dec (fun _ => ?_) (fun _ => ?_))
    | with_reducible refine chk_dec (by omega) ?_
    all_goals first | (exfalso; omega) | skip
    all_goals (repeat first | rw [if_pos (by omega)] at h3 | rw [if_neg (by omega)] at h3 | rw [if_pos rfl] at h3 | rw [if_neg (by decide)] at h3)
    all_goals exact h3
theorem k43 : Keeps Proofs.Try.prog 43 S43 := by
  refine ⟨?_, Proofs.Try.f43, by kernel_rfl, by kernel_rfl, by kernel_rfl⟩
  intro args e post h
  unfold S43 at h
  split at h
  · refine Spec.inR fun hin hie => fun_ok' (c := c43) gamL_ok (l := u43) a43 rfl mixed_ok (fn := Proofs.Try.f43) (show Proofs.Try.prog.funcs[43]? = some Proofs.Try.f43 by kernel_rfl) (by kernel_rfl) (ls := []) rfl (.inl rfl) trivial (pm := pm43) (by simp [c43]) (by rintro ⟨t, l, h⟩; cases h) ?_
    exact p43_0 _ _ _ _ _ _ _ _ _ _ _ _ _ _ _ _ hin hie h
  · exact h.elim
end Go.Proofs.Ytokeanadhihlfaa.V
