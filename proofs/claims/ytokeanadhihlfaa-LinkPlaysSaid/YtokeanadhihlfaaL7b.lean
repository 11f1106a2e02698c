import Derived.Test.YtokeanadhihlfaaPlans
import Derived.Test.YtokeanadhihlfaaMB
import Derived.Test.YtokeanadhihlfaaProg
import Derived.Test.YtokeanadhihlfaaS0
import Derived.Test.YtokeanadhihlfaaS1
import Derived.Test.YtokeanadhihlfaaS2
import Derived.Test.YtokeanadhihlfaaS3
import Derived.Test.YtokeanadhihlfaaS4
import Derived.Test.YtokeanadhihlfaaS5
import Derived.Test.YtokeanadhihlfaaB1
import Derived.Test.YtokeanadhihlfaaP7
import Derived.Test.YtokeanadhihlfaaL1
import Derived.Test.YtokeanadhihlfaaL2
import Derived.Test.YtokeanadhihlfaaL3
import Derived.Test.YtokeanadhihlfaaL4a
import Derived.Test.YtokeanadhihlfaaL4b
import Derived.Test.YtokeanadhihlfaaL4c
import Derived.Test.YtokeanadhihlfaaL5
import Derived.Test.YtokeanadhihlfaaPlansB
import Derived.KernelRfl
set_option linter.all false
set_option maxHeartbeats 1000000
namespace Go.Proofs.Ytokeanadhihlfaa.V
open Go
def pm10 : Pm := ⟨[.i .i64], .no, [.s]⟩
def u10 : List (Nat × Tr) := [(18, S18), (22, S22), (26, S26), (27, S27), (30, S30), (35, S35), (37, S37), (38, S38), (39, S39), (40, S40), (41, S41), (42, S42), (43, S43), (44, S44), (45, S45), (46, S46)]
theorem a10 : AllKeep Proofs.Try.prog u10 := ⟨k18, k22, k26, k27, k30, k35, k37, k38, k39, k40, k41, k42, k43, k44, k45, k46, trivial⟩

def kp10_5 : List (Loc × Keep) := [(.t 3, .ptr), (.t 4, .ptr), (.t 5, .ptr), (.t 6, .shp .s), (.t 7, .shp .s), (.c 4 5, .shp (.i .u8)), (.c 5 5, .shp (.i .u8))]
def tr10_5 : Trim := .some [] [] [2] []
def L10_5 : LTr
  | ⟨[(3, .ptr 19 0 0), (4, .ptr 4 0 0), (5, .ptr 5 0 0), (6, .int .i64 now), (7, .int .i64 i)], [(4, .box 57 [.int .i64 kn, .int .i64 kst, .int .u32 ka, .int .i64 kc, .int .i64 kl, .ints false .u8 ks, .int .i64 kq, .int .i64 kt]), (5, .box 57 [.int .i64 kn', .int .i64 kst', .int .u32 ka', .int .i64 kc', .int .i64 kl', .ints false .u8 ks', .int .i64 kq', .int .i64 kt']), (19, .box 83 [.ints false .i64 l, .int .i64 n])]⟩, k => chk (decide (0 ≤ i ∧ i ≤ 60 ∧ 0 ≤ n ∧ n ≤ l.length ∧ 0 ≤ now ∧ now ≤ 21 * i)) ((LInv ⟨kn, kst, ka, kc, kl, ks, kq, kt⟩ ∧ (⟨kn, kst, ka, kc, kl, ks, kq, kt⟩ : Lk) = ⟨kn', kst', ka', kc', kl', ks', kq', kt'⟩) ∧ k (.exit 0) ⟨[], []⟩)
  | _, _ => False
def c10_0 : Cfg := { n := 152, Γ := GamL, C := ofL u10, pm := pmL [(18, pm18), (22, pm22), (26, pm26), (27, pm27), (30, pm30), (35, pm35), (37, pm37), (38, pm38), (39, pm39), (40, pm40), (41, pm41), (42, pm42), (43, pm43), (44, pm44), (45, pm45), (46, pm46)], plan := planB10, L := lpL [], unroll := nmL [], keep := kpL [(5, kp10_5)] }
def c10 : Cfg := { n := 152, Γ := GamL, C := ofL u10, pm := pmL [(18, pm18), (22, pm22), (26, pm26), (27, pm27), (30, pm30), (35, pm35), (37, pm37), (38, pm38), (39, pm39), (40, pm40), (41, pm41), (42, pm42), (43, pm43), (44, pm44), (45, pm45), (46, pm46)], plan := planB10, L := lpL [(5, L10_5)], unroll := nmL [], keep := kpL [(5, kp10_5)] }
def S10 : Tr
  | [.ints false .i64 l], none, post => post (.bool true) none
  | _, _, _ => False
theorem t10_0 (l : List Int) (post : AV → Option AV → Prop) : runF c10 pm10 Proofs.Try.f10 [.ints false .i64 l] none post = ((LInv (Lk.mk (0 : Int) (0 : Int) (0 : Int) (0 : Int) (0 : Int) [] (0 : Int) (0 : Int)) ∧
     Lk.mk (0 : Int) (0 : Int) (0 : Int) (0 : Int) (0 : Int) [] (0 : Int) (0 : Int) =
     Lk.mk (0 : Int) (0 : Int) (0 : Int) (0 : Int) (0 : Int) [] (0 : Int) (0 : Int)) ∧
     post (AV.bool true) none) := by kernel_rfl
theorem q10_5 (now i n : Int) (l : List Int) (kn kst ka kc kl kq kt : Int) (ks : List Int) (kn' kst' ka' kc' kl' kq' kt' : Int) (ks' : List Int) (k : Out → AS → Prop) : stepL c10_0 kp10_5 tr10_5 (loopAt Proofs.Try.f10 5) ⟨[(3, .ptr 19 0 0), (4, .ptr 4 0 0), (5, .ptr 5 0 0), (6, .int .i64 now), (7, .int .i64 i)], [(4, .box 57 [.int .i64 kn, .int .i64 kst, .int .u32 ka, .int .i64 kc, .int .i64 kl, .ints false .u8 ks, .int .i64 kq, .int .i64 kt]), (5, .box 57 [.int .i64 kn', .int .i64 kst', .int .u32 ka', .int .i64 kc', .int .i64 kl', .ints false .u8 ks', .int .i64 kq', .int .i64 kt']), (19, .box 83 [.ints false .i64 l, .int .i64 n])]⟩ k = (br (decide (i < (60 : Int)))
     (br (decide (n < @Nat.cast Int _ l.length))
     (chk (decide ((0 : Int) < (6 : Int) ∧ (6 : Int) ≤ (1000000 : Int) ∧ (0 : Int) ≤ n ∧ n ≤ @Nat.cast Int _ l.length))
     (chk (inB (nextR l n (6 : Int)) (6 : Nat))
     (chk (decide ((nextR l n (6 : Int)).toNat < (6 : Nat)))
     (chk
     (decide
     ((0 : Int) < (8 : Int) ∧
     (8 : Int) ≤ (1000000 : Int) ∧ (0 : Int) ≤ nextN l n ∧ nextN l n ≤ @Nat.cast Int _ l.length))
     (br (nextR l (nextN l n) (8 : Int) == (0 : Int))
     (chk
     (decide
     ((0 : Int) < (9 : Int) ∧
     (9 : Int) ≤ (1000000 : Int) ∧
     (0 : Int) ≤ nextN l (nextN l n) ∧ nextN l (nextN l n) ≤ @Nat.cast Int _ l.length))
     (chk
     (decide
     ((0 : Int) < (16 : Int) ∧
     (16 : Int) ≤ (1000000 : Int) ∧
     (0 : Int) ≤ nextN l (nextN l (nextN l n)) ∧ nextN l (nextN l (nextN l n)) ≤ @Nat.cast Int _ l.length))
     (∀ (r : Int),
     (0 : Int) ≤ r ∧ r ≤ (4097 : Int) →
     chk
     (decide
     ((0 : Int) ≤ nextR l (nextN l (nextN l n)) (9 : Int) ∧
     nextR l (nextN l (nextN l n)) (9 : Int) ≤ (1000 : Int) ∧ (0 : Int) ≤ r ∧ r ≤ (4097 : Int)))
     (∀ (l_1 : List Int),
     RngL IntKind.u8 l_1 →
     l_1.length = r.toNat →
     br
     ((answL (Lk.mk kn kst ka kc kl ks kq kt) l_1).snd.2 !=
     (answL (Lk.mk kn' kst' ka' kc' kl' ks' kq' kt') l_1).snd.2)
     (k Out.ret (AS.mk [((2 : Nat), AV.bool false)] []))
     (Lk.mk (answL (Lk.mk kn kst ka kc kl ks kq kt) l_1).fst.n
     (answL (Lk.mk kn kst ka kc kl ks kq kt) l_1).fst.st
     (answL (Lk.mk kn kst ka kc kl ks kq kt) l_1).fst.a
     (answL (Lk.mk kn kst ka kc kl ks kq kt) l_1).fst.cmd
     (answL (Lk.mk kn kst ka kc kl ks kq kt) l_1).fst.len
     (answL (Lk.mk kn kst ka kc kl ks kq kt) l_1).fst.s
     (answL (Lk.mk kn kst ka kc kl ks kq kt) l_1).fst.q
     (answL (Lk.mk kn kst ka kc kl ks kq kt) l_1).fst.t =
     Lk.mk (answL (Lk.mk kn' kst' ka' kc' kl' ks' kq' kt') l_1).fst.n
     (answL (Lk.mk kn' kst' ka' kc' kl' ks' kq' kt') l_1).fst.st
     (answL (Lk.mk kn' kst' ka' kc' kl' ks' kq' kt') l_1).fst.a
     (answL (Lk.mk kn' kst' ka' kc' kl' ks' kq' kt') l_1).fst.cmd
     (answL (Lk.mk kn' kst' ka' kc' kl' ks' kq' kt') l_1).fst.len
     (answL (Lk.mk kn' kst' ka' kc' kl' ks' kq' kt') l_1).fst.s
     (answL (Lk.mk kn' kst' ka' kc' kl' ks' kq' kt') l_1).fst.q
     (answL (Lk.mk kn' kst' ka' kc' kl' ks' kq' kt') l_1).fst.t ∧
     Ou.mk (answL (Lk.mk kn kst ka kc kl ks kq kt) l_1).snd.fst false [] false =
     Ou.mk (answL (Lk.mk kn' kst' ka' kc' kl' ks' kq' kt') l_1).snd.fst false []
     false ∧
     k Out.normal
     (AS.mk
     [((3 : Nat), AV.ptr (19 : Nat) (0 : Nat) (0 : Nat)),
     ((4 : Nat), AV.ptr (4 : Nat) (0 : Nat) (0 : Nat)),
     ((5 : Nat), AV.ptr (5 : Nat) (0 : Nat) (0 : Nat)),
     ((6 : Nat),
     AV.int IntKind.i64
     (IntKind.i64.wrap
     (now +
     [(0 : Int), (1 : Int), (0 : Int), (20 : Int), (21 : Int),
     (5 : Int)].getD
     (nextR l n (6 : Int)).toNat (0 : Int)))),
     ((7 : Nat), AV.int IntKind.i64 (IntKind.i64.wrap (i + (1 : Int))))]
     [((4 : Nat),
     AV.box (57 : Nat)
     [AV.int IntKind.i64 (answL (Lk.mk kn kst ka kc kl ks kq kt) l_1).fst.n,
     AV.int IntKind.i64 (answL (Lk.mk kn kst ka kc kl ks kq kt) l_1).fst.st,
     AV.int IntKind.u32 (answL (Lk.mk kn kst ka kc kl ks kq kt) l_1).fst.a,
     AV.int IntKind.i64 (answL (Lk.mk kn kst ka kc kl ks kq kt) l_1).fst.cmd,
     AV.int IntKind.i64 (answL (Lk.mk kn kst ka kc kl ks kq kt) l_1).fst.len,
     AV.ints false IntKind.u8
     (answL (Lk.mk kn kst ka kc kl ks kq kt) l_1).fst.s,
     AV.int IntKind.i64 (answL (Lk.mk kn kst ka kc kl ks kq kt) l_1).fst.q,
     AV.int IntKind.i64 (answL (Lk.mk kn kst ka kc kl ks kq kt) l_1).fst.t]),
     ((5 : Nat),
     AV.box (57 : Nat)
     [AV.int IntKind.i64
     (answL (Lk.mk kn' kst' ka' kc' kl' ks' kq' kt') l_1).fst.n,
     AV.int IntKind.i64
     (answL (Lk.mk kn' kst' ka' kc' kl' ks' kq' kt') l_1).fst.st,
     AV.int IntKind.u32
     (answL (Lk.mk kn' kst' ka' kc' kl' ks' kq' kt') l_1).fst.a,
     AV.int IntKind.i64
     (answL (Lk.mk kn' kst' ka' kc' kl' ks' kq' kt') l_1).fst.cmd,
     AV.int IntKind.i64
     (answL (Lk.mk kn' kst' ka' kc' kl' ks' kq' kt') l_1).fst.len,
     AV.ints false IntKind.u8
     (answL (Lk.mk kn' kst' ka' kc' kl' ks' kq' kt') l_1).fst.s,
     AV.int IntKind.i64
     (answL (Lk.mk kn' kst' ka' kc' kl' ks' kq' kt') l_1).fst.q,
     AV.int IntKind.i64
     (answL (Lk.mk kn' kst' ka' kc' kl' ks' kq' kt') l_1).fst.t]),
     ((19 : Nat),
     AV.box (83 : Nat)
     [AV.ints false IntKind.i64 l,
     AV.int IntKind.i64 (nextN l (nextN l (nextN l (nextN l n))))])]))))))
     (br (nextR l (nextN l n) (8 : Int) == (1 : Int))
     (Lk.mk
     (tickL (Lk.mk kn kst ka kc kl ks kq kt)
     (IntKind.i64.wrap
     (now +
     [(0 : Int), (1 : Int), (0 : Int), (20 : Int), (21 : Int), (5 : Int)].getD
     (nextR l n (6 : Int)).toNat (0 : Int)))).fst.n
     (tickL (Lk.mk kn kst ka kc kl ks kq kt)
     (IntKind.i64.wrap
     (now +
     [(0 : Int), (1 : Int), (0 : Int), (20 : Int), (21 : Int), (5 : Int)].getD
     (nextR l n (6 : Int)).toNat (0 : Int)))).fst.st
     (tickL (Lk.mk kn kst ka kc kl ks kq kt)
     (IntKind.i64.wrap
     (now +
     [(0 : Int), (1 : Int), (0 : Int), (20 : Int), (21 : Int), (5 : Int)].getD
     (nextR l n (6 : Int)).toNat (0 : Int)))).fst.a
     (tickL (Lk.mk kn kst ka kc kl ks kq kt)
     (IntKind.i64.wrap
     (now +
     [(0 : Int), (1 : Int), (0 : Int), (20 : Int), (21 : Int), (5 : Int)].getD
     (nextR l n (6 : Int)).toNat (0 : Int)))).fst.cmd
     (tickL (Lk.mk kn kst ka kc kl ks kq kt)
     (IntKind.i64.wrap
     (now +
     [(0 : Int), (1 : Int), (0 : Int), (20 : Int), (21 : Int), (5 : Int)].getD
     (nextR l n (6 : Int)).toNat (0 : Int)))).fst.len
     (tickL (Lk.mk kn kst ka kc kl ks kq kt)
     (IntKind.i64.wrap
     (now +
     [(0 : Int), (1 : Int), (0 : Int), (20 : Int), (21 : Int), (5 : Int)].getD
     (nextR l n (6 : Int)).toNat (0 : Int)))).fst.s
     (tickL (Lk.mk kn kst ka kc kl ks kq kt)
     (IntKind.i64.wrap
     (now +
     [(0 : Int), (1 : Int), (0 : Int), (20 : Int), (21 : Int), (5 : Int)].getD
     (nextR l n (6 : Int)).toNat (0 : Int)))).fst.q
     (tickL (Lk.mk kn kst ka kc kl ks kq kt)
     (IntKind.i64.wrap
     (now +
     [(0 : Int), (1 : Int), (0 : Int), (20 : Int), (21 : Int), (5 : Int)].getD
     (nextR l n (6 : Int)).toNat (0 : Int)))).fst.t =
     Lk.mk
     (tickR (Lk.mk kn' kst' ka' kc' kl' ks' kq' kt')
     (IntKind.i64.wrap
     (now +
     [(0 : Int), (1 : Int), (0 : Int), (20 : Int), (21 : Int), (5 : Int)].getD
     (nextR l n (6 : Int)).toNat (0 : Int)))).fst.n
     (tickR (Lk.mk kn' kst' ka' kc' kl' ks' kq' kt')
     (IntKind.i64.wrap
     (now +
     [(0 : Int), (1 : Int), (0 : Int), (20 : Int), (21 : Int), (5 : Int)].getD
     (nextR l n (6 : Int)).toNat (0 : Int)))).fst.st
     (tickR (Lk.mk kn' kst' ka' kc' kl' ks' kq' kt')
     (IntKind.i64.wrap
     (now +
     [(0 : Int), (1 : Int), (0 : Int), (20 : Int), (21 : Int), (5 : Int)].getD
     (nextR l n (6 : Int)).toNat (0 : Int)))).fst.a
     (tickR (Lk.mk kn' kst' ka' kc' kl' ks' kq' kt')
     (IntKind.i64.wrap
     (now +
     [(0 : Int), (1 : Int), (0 : Int), (20 : Int), (21 : Int), (5 : Int)].getD
     (nextR l n (6 : Int)).toNat (0 : Int)))).fst.cmd
     (tickR (Lk.mk kn' kst' ka' kc' kl' ks' kq' kt')
     (IntKind.i64.wrap
     (now +
     [(0 : Int), (1 : Int), (0 : Int), (20 : Int), (21 : Int), (5 : Int)].getD
     (nextR l n (6 : Int)).toNat (0 : Int)))).fst.len
     (tickR (Lk.mk kn' kst' ka' kc' kl' ks' kq' kt')
     (IntKind.i64.wrap
     (now +
     [(0 : Int), (1 : Int), (0 : Int), (20 : Int), (21 : Int), (5 : Int)].getD
     (nextR l n (6 : Int)).toNat (0 : Int)))).fst.s
     (tickR (Lk.mk kn' kst' ka' kc' kl' ks' kq' kt')
     (IntKind.i64.wrap
     (now +
     [(0 : Int), (1 : Int), (0 : Int), (20 : Int), (21 : Int), (5 : Int)].getD
     (nextR l n (6 : Int)).toNat (0 : Int)))).fst.q
     (tickR (Lk.mk kn' kst' ka' kc' kl' ks' kq' kt')
     (IntKind.i64.wrap
     (now +
     [(0 : Int), (1 : Int), (0 : Int), (20 : Int), (21 : Int), (5 : Int)].getD
     (nextR l n (6 : Int)).toNat (0 : Int)))).fst.t ∧
     Ou.mk
     (tickL (Lk.mk kn kst ka kc kl ks kq kt)
     (IntKind.i64.wrap
     (now +
     [(0 : Int), (1 : Int), (0 : Int), (20 : Int), (21 : Int), (5 : Int)].getD
     (nextR l n (6 : Int)).toNat (0 : Int)))).snd.ps
     (tickL (Lk.mk kn kst ka kc kl ks kq kt)
     (IntKind.i64.wrap
     (now +
     [(0 : Int), (1 : Int), (0 : Int), (20 : Int), (21 : Int), (5 : Int)].getD
     (nextR l n (6 : Int)).toNat (0 : Int)))).snd.dl
     (tickL (Lk.mk kn kst ka kc kl ks kq kt)
     (IntKind.i64.wrap
     (now +
     [(0 : Int), (1 : Int), (0 : Int), (20 : Int), (21 : Int), (5 : Int)].getD
     (nextR l n (6 : Int)).toNat (0 : Int)))).snd.ms
     (tickL (Lk.mk kn kst ka kc kl ks kq kt)
     (IntKind.i64.wrap
     (now +
     [(0 : Int), (1 : Int), (0 : Int), (20 : Int), (21 : Int), (5 : Int)].getD
     (nextR l n (6 : Int)).toNat (0 : Int)))).snd.cn =
     Ou.mk
     (tickR (Lk.mk kn' kst' ka' kc' kl' ks' kq' kt')
     (IntKind.i64.wrap
     (now +
     [(0 : Int), (1 : Int), (0 : Int), (20 : Int), (21 : Int), (5 : Int)].getD
     (nextR l n (6 : Int)).toNat (0 : Int)))).snd.ps
     (tickR (Lk.mk kn' kst' ka' kc' kl' ks' kq' kt')
     (IntKind.i64.wrap
     (now +
     [(0 : Int), (1 : Int), (0 : Int), (20 : Int), (21 : Int), (5 : Int)].getD
     (nextR l n (6 : Int)).toNat (0 : Int)))).snd.dl
     (tickR (Lk.mk kn' kst' ka' kc' kl' ks' kq' kt')
     (IntKind.i64.wrap
     (now +
     [(0 : Int), (1 : Int), (0 : Int), (20 : Int), (21 : Int), (5 : Int)].getD
     (nextR l n (6 : Int)).toNat (0 : Int)))).snd.ms
     (tickR (Lk.mk kn' kst' ka' kc' kl' ks' kq' kt')
     (IntKind.i64.wrap
     (now +
     [(0 : Int), (1 : Int), (0 : Int), (20 : Int), (21 : Int), (5 : Int)].getD
     (nextR l n (6 : Int)).toNat (0 : Int)))).snd.cn ∧
     k Out.normal
     (AS.mk
     [((3 : Nat), AV.ptr (19 : Nat) (0 : Nat) (0 : Nat)),
     ((4 : Nat), AV.ptr (4 : Nat) (0 : Nat) (0 : Nat)),
     ((5 : Nat), AV.ptr (5 : Nat) (0 : Nat) (0 : Nat)),
     ((6 : Nat),
     AV.int IntKind.i64
     (IntKind.i64.wrap
     (now +
     [(0 : Int), (1 : Int), (0 : Int), (20 : Int), (21 : Int), (5 : Int)].getD
     (nextR l n (6 : Int)).toNat (0 : Int)))),
     ((7 : Nat), AV.int IntKind.i64 (IntKind.i64.wrap (i + (1 : Int))))]
     [((4 : Nat),
     AV.box (57 : Nat)
     [AV.int IntKind.i64
     (tickL (Lk.mk kn kst ka kc kl ks kq kt)
     (IntKind.i64.wrap
     (now +
     [(0 : Int), (1 : Int), (0 : Int), (20 : Int), (21 : Int), (5 : Int)].getD
     (nextR l n (6 : Int)).toNat (0 : Int)))).fst.n,
     AV.int IntKind.i64
     (tickL (Lk.mk kn kst ka kc kl ks kq kt)
     (IntKind.i64.wrap
     (now +
     [(0 : Int), (1 : Int), (0 : Int), (20 : Int), (21 : Int), (5 : Int)].getD
     (nextR l n (6 : Int)).toNat (0 : Int)))).fst.st,
     AV.int IntKind.u32
     (tickL (Lk.mk kn kst ka kc kl ks kq kt)
     (IntKind.i64.wrap
     (now +
     [(0 : Int), (1 : Int), (0 : Int), (20 : Int), (21 : Int), (5 : Int)].getD
     (nextR l n (6 : Int)).toNat (0 : Int)))).fst.a,
     AV.int IntKind.i64
     (tickL (Lk.mk kn kst ka kc kl ks kq kt)
     (IntKind.i64.wrap
     (now +
     [(0 : Int), (1 : Int), (0 : Int), (20 : Int), (21 : Int), (5 : Int)].getD
     (nextR l n (6 : Int)).toNat (0 : Int)))).fst.cmd,
     AV.int IntKind.i64
     (tickL (Lk.mk kn kst ka kc kl ks kq kt)
     (IntKind.i64.wrap
     (now +
     [(0 : Int), (1 : Int), (0 : Int), (20 : Int), (21 : Int), (5 : Int)].getD
     (nextR l n (6 : Int)).toNat (0 : Int)))).fst.len,
     AV.ints false IntKind.u8
     (tickL (Lk.mk kn kst ka kc kl ks kq kt)
     (IntKind.i64.wrap
     (now +
     [(0 : Int), (1 : Int), (0 : Int), (20 : Int), (21 : Int), (5 : Int)].getD
     (nextR l n (6 : Int)).toNat (0 : Int)))).fst.s,
     AV.int IntKind.i64
     (tickL (Lk.mk kn kst ka kc kl ks kq kt)
     (IntKind.i64.wrap
     (now +
     [(0 : Int), (1 : Int), (0 : Int), (20 : Int), (21 : Int), (5 : Int)].getD
     (nextR l n (6 : Int)).toNat (0 : Int)))).fst.q,
     AV.int IntKind.i64
     (tickL (Lk.mk kn kst ka kc kl ks kq kt)
     (IntKind.i64.wrap
     (now +
     [(0 : Int), (1 : Int), (0 : Int), (20 : Int), (21 : Int), (5 : Int)].getD
     (nextR l n (6 : Int)).toNat (0 : Int)))).fst.t]),
     ((5 : Nat),
     AV.box (57 : Nat)
     [AV.int IntKind.i64
     (tickR (Lk.mk kn' kst' ka' kc' kl' ks' kq' kt')
     (IntKind.i64.wrap
     (now +
     [(0 : Int), (1 : Int), (0 : Int), (20 : Int), (21 : Int), (5 : Int)].getD
     (nextR l n (6 : Int)).toNat (0 : Int)))).fst.n,
     AV.int IntKind.i64
     (tickR (Lk.mk kn' kst' ka' kc' kl' ks' kq' kt')
     (IntKind.i64.wrap
     (now +
     [(0 : Int), (1 : Int), (0 : Int), (20 : Int), (21 : Int), (5 : Int)].getD
     (nextR l n (6 : Int)).toNat (0 : Int)))).fst.st,
     AV.int IntKind.u32
     (tickR (Lk.mk kn' kst' ka' kc' kl' ks' kq' kt')
     (IntKind.i64.wrap
     (now +
     [(0 : Int), (1 : Int), (0 : Int), (20 : Int), (21 : Int), (5 : Int)].getD
     (nextR l n (6 : Int)).toNat (0 : Int)))).fst.a,
     AV.int IntKind.i64
     (tickR (Lk.mk kn' kst' ka' kc' kl' ks' kq' kt')
     (IntKind.i64.wrap
     (now +
     [(0 : Int), (1 : Int), (0 : Int), (20 : Int), (21 : Int), (5 : Int)].getD
     (nextR l n (6 : Int)).toNat (0 : Int)))).fst.cmd,
     AV.int IntKind.i64
     (tickR (Lk.mk kn' kst' ka' kc' kl' ks' kq' kt')
     (IntKind.i64.wrap
     (now +
     [(0 : Int), (1 : Int), (0 : Int), (20 : Int), (21 : Int), (5 : Int)].getD
     (nextR l n (6 : Int)).toNat (0 : Int)))).fst.len,
     AV.ints false IntKind.u8
     (tickR (Lk.mk kn' kst' ka' kc' kl' ks' kq' kt')
     (IntKind.i64.wrap
     (now +
     [(0 : Int), (1 : Int), (0 : Int), (20 : Int), (21 : Int), (5 : Int)].getD
     (nextR l n (6 : Int)).toNat (0 : Int)))).fst.s,
     AV.int IntKind.i64
     (tickR (Lk.mk kn' kst' ka' kc' kl' ks' kq' kt')
     (IntKind.i64.wrap
     (now +
     [(0 : Int), (1 : Int), (0 : Int), (20 : Int), (21 : Int), (5 : Int)].getD
     (nextR l n (6 : Int)).toNat (0 : Int)))).fst.q,
     AV.int IntKind.i64
     (tickR (Lk.mk kn' kst' ka' kc' kl' ks' kq' kt')
     (IntKind.i64.wrap
     (now +
     [(0 : Int), (1 : Int), (0 : Int), (20 : Int), (21 : Int), (5 : Int)].getD
     (nextR l n (6 : Int)).toNat (0 : Int)))).fst.t]),
     ((19 : Nat),
     AV.box (83 : Nat)
     [AV.ints false IntKind.i64 l, AV.int IntKind.i64 (nextN l (nextN l n))])]))
     (br (nextR l (nextN l n) (8 : Int) == (2 : Int))
     (chk
     (decide
     ((0 : Int) < (9 : Int) ∧
     (9 : Int) ≤ (1000000 : Int) ∧
     (0 : Int) ≤ nextN l (nextN l n) ∧ nextN l (nextN l n) ≤ @Nat.cast Int _ l.length))
     (∀ (l_1 : List Int),
     RngL IntKind.u8 l_1 →
     l_1.length = clampN (8 : Int) →
     chk (decide (ks.length ≤ (100000 : Nat) ∧ (-1000000 : Int) ≤ kl ∧ kl ≤ (1000000 : Int)))
     (∀ (k' : Lk) (o' : Ou),
     recvL (Lk.mk kn kst ka kc kl ks kq kt)
     (IntKind.i64.wrap
     (now +
     [(0 : Int), (1 : Int), (0 : Int), (20 : Int), (21 : Int), (5 : Int)].getD
     (nextR l n (6 : Int)).toNat (0 : Int)))
     (Rec.mk (4294967295 : Int) (6 : Int) (8 : Int) (0 : Int) true l_1) =
     (k', o') →
     chk
     (decide
     (ks'.length ≤ (100000 : Nat) ∧ (-1000000 : Int) ≤ kl' ∧ kl' ≤ (1000000 : Int)))
     (∀ (k'_1 : Lk) (o'_1 : Ou),
     recvR (Lk.mk kn' kst' ka' kc' kl' ks' kq' kt')
     (IntKind.i64.wrap
     (now +
     [(0 : Int), (1 : Int), (0 : Int), (20 : Int), (21 : Int), (5 : Int)].getD
     (nextR l n (6 : Int)).toNat (0 : Int)))
     (Rec.mk (4294967295 : Int) (6 : Int) (8 : Int) (0 : Int) true l_1) =
     (k'_1, o'_1) →
     Lk.mk k'.n k'.st k'.a k'.cmd k'.len k'.s k'.q k'.t =
     Lk.mk k'_1.n k'_1.st k'_1.a k'_1.cmd k'_1.len k'_1.s k'_1.q k'_1.t ∧
     Ou.mk o'.ps o'.dl o'.ms o'.cn = Ou.mk o'_1.ps o'_1.dl o'_1.ms o'_1.cn ∧
     k Out.normal
     (AS.mk
     [((3 : Nat), AV.ptr (19 : Nat) (0 : Nat) (0 : Nat)),
     ((4 : Nat), AV.ptr (4 : Nat) (0 : Nat) (0 : Nat)),
     ((5 : Nat), AV.ptr (5 : Nat) (0 : Nat) (0 : Nat)),
     ((6 : Nat),
     AV.int IntKind.i64
     (IntKind.i64.wrap
     (now +
     [(0 : Int), (1 : Int), (0 : Int), (20 : Int), (21 : Int),
     (5 : Int)].getD
     (nextR l n (6 : Int)).toNat (0 : Int)))),
     ((7 : Nat), AV.int IntKind.i64 (IntKind.i64.wrap (i + (1 : Int))))]
     [((4 : Nat),
     AV.box (57 : Nat)
     [AV.int IntKind.i64 k'.n, AV.int IntKind.i64 k'.st,
     AV.int IntKind.u32 k'.a, AV.int IntKind.i64 k'.cmd,
     AV.int IntKind.i64 k'.len, AV.ints false IntKind.u8 k'.s,
     AV.int IntKind.i64 k'.q, AV.int IntKind.i64 k'.t]),
     ((5 : Nat),
     AV.box (57 : Nat)
     [AV.int IntKind.i64 k'_1.n, AV.int IntKind.i64 k'_1.st,
     AV.int IntKind.u32 k'_1.a, AV.int IntKind.i64 k'_1.cmd,
     AV.int IntKind.i64 k'_1.len, AV.ints false IntKind.u8 k'_1.s,
     AV.int IntKind.i64 k'_1.q, AV.int IntKind.i64 k'_1.t]),
     ((19 : Nat),
     AV.box (83 : Nat)
     [AV.ints false IntKind.i64 l,
     AV.int IntKind.i64 (nextN l (nextN l (nextN l n)))])])))))
     (br (nextR l (nextN l n) (8 : Int) == (3 : Int))
     (chk
     (decide
     ((0 : Int) < (9 : Int) ∧
     (9 : Int) ≤ (1000000 : Int) ∧
     (0 : Int) ≤ nextN l (nextN l n) ∧ nextN l (nextN l n) ≤ @Nat.cast Int _ l.length))
     (∀ (l_1 : List Int),
     RngL IntKind.u8 l_1 →
     l_1.length = clampN (8 : Int) →
     chk (decide (ks.length ≤ (100000 : Nat) ∧ (-1000000 : Int) ≤ kl ∧ kl ≤ (1000000 : Int)))
     (∀ (k' : Lk) (o' : Ou),
     recvL (Lk.mk kn kst ka kc kl ks kq kt)
     (IntKind.i64.wrap
     (now +
     [(0 : Int), (1 : Int), (0 : Int), (20 : Int), (21 : Int), (5 : Int)].getD
     (nextR l n (6 : Int)).toNat (0 : Int)))
     (Rec.mk (4294967295 : Int) (6 : Int) (8 : Int) (0 : Int) true l_1) =
     (k', o') →
     chk
     (decide
     (ks'.length ≤ (100000 : Nat) ∧ (-1000000 : Int) ≤ kl' ∧ kl' ≤ (1000000 : Int)))
     (∀ (k'_1 : Lk) (o'_1 : Ou),
     recvR (Lk.mk kn' kst' ka' kc' kl' ks' kq' kt')
     (IntKind.i64.wrap
     (now +
     [(0 : Int), (1 : Int), (0 : Int), (20 : Int), (21 : Int),
     (5 : Int)].getD
     (nextR l n (6 : Int)).toNat (0 : Int)))
     (Rec.mk (4294967295 : Int) (6 : Int) (8 : Int) (0 : Int) true l_1) =
     (k'_1, o'_1) →
     Lk.mk k'.n k'.st k'.a k'.cmd k'.len k'.s k'.q k'.t =
     Lk.mk k'_1.n k'_1.st k'_1.a k'_1.cmd k'_1.len k'_1.s k'_1.q k'_1.t ∧
     Ou.mk o'.ps o'.dl o'.ms o'.cn = Ou.mk o'_1.ps o'_1.dl o'_1.ms o'_1.cn ∧
     k Out.normal
     (AS.mk
     [((3 : Nat), AV.ptr (19 : Nat) (0 : Nat) (0 : Nat)),
     ((4 : Nat), AV.ptr (4 : Nat) (0 : Nat) (0 : Nat)),
     ((5 : Nat), AV.ptr (5 : Nat) (0 : Nat) (0 : Nat)),
     ((6 : Nat),
     AV.int IntKind.i64
     (IntKind.i64.wrap
     (now +
     [(0 : Int), (1 : Int), (0 : Int), (20 : Int), (21 : Int),
     (5 : Int)].getD
     (nextR l n (6 : Int)).toNat (0 : Int)))),
     ((7 : Nat), AV.int IntKind.i64 (IntKind.i64.wrap (i + (1 : Int))))]
     [((4 : Nat),
     AV.box (57 : Nat)
     [AV.int IntKind.i64 k'.n, AV.int IntKind.i64 k'.st,
     AV.int IntKind.u32 k'.a, AV.int IntKind.i64 k'.cmd,
     AV.int IntKind.i64 k'.len, AV.ints false IntKind.u8 k'.s,
     AV.int IntKind.i64 k'.q, AV.int IntKind.i64 k'.t]),
     ((5 : Nat),
     AV.box (57 : Nat)
     [AV.int IntKind.i64 k'_1.n, AV.int IntKind.i64 k'_1.st,
     AV.int IntKind.u32 k'_1.a, AV.int IntKind.i64 k'_1.cmd,
     AV.int IntKind.i64 k'_1.len, AV.ints false IntKind.u8 k'_1.s,
     AV.int IntKind.i64 k'_1.q, AV.int IntKind.i64 k'_1.t]),
     ((19 : Nat),
     AV.box (83 : Nat)
     [AV.ints false IntKind.i64 l,
     AV.int IntKind.i64 (nextN l (nextN l (nextN l n)))])])))))
     (br (nextR l (nextN l n) (8 : Int) == (4 : Int))
     (chk
     (decide
     ((0 : Int) < (9 : Int) ∧
     (9 : Int) ≤ (1000000 : Int) ∧
     (0 : Int) ≤ nextN l (nextN l n) ∧ nextN l (nextN l n) ≤ @Nat.cast Int _ l.length))
     ((∀ (l_1 : List Int),
     RngL IntKind.u8 l_1 →
     l_1.length = clampN (59 : Int) →
     chk
     (decide (ks.length ≤ (100000 : Nat) ∧ (-1000000 : Int) ≤ kl ∧ kl ≤ (1000000 : Int)))
     (∀ (k' : Lk) (o' : Ou),
     recvL (Lk.mk kn kst ka kc kl ks kq kt)
     (IntKind.i64.wrap
     (now +
     [(0 : Int), (1 : Int), (0 : Int), (20 : Int), (21 : Int),
     (5 : Int)].getD
     (nextR l n (6 : Int)).toNat (0 : Int)))
     (Rec.mk ka' (0 : Int) (0 : Int) kq' false l_1) =
     (k', o') →
     chk
     (decide
     (ks'.length ≤ (100000 : Nat) ∧
     (-1000000 : Int) ≤ kl' ∧ kl' ≤ (1000000 : Int)))
     (∀ (k'_1 : Lk) (o'_1 : Ou),
     recvR (Lk.mk kn' kst' ka' kc' kl' ks' kq' kt')
     (IntKind.i64.wrap
     (now +
     [(0 : Int), (1 : Int), (0 : Int), (20 : Int), (21 : Int),
     (5 : Int)].getD
     (nextR l n (6 : Int)).toNat (0 : Int)))
     (Rec.mk ka' (0 : Int) (0 : Int) kq' false l_1) =
     (k'_1, o'_1) →
     Lk.mk k'.n k'.st k'.a k'.cmd k'.len k'.s k'.q k'.t =
     Lk.mk k'_1.n k'_1.st k'_1.a k'_1.cmd k'_1.len k'_1.s k'_1.q k'_1.t ∧
     Ou.mk o'.ps o'.dl o'.ms o'.cn = Ou.mk o'_1.ps o'_1.dl o'_1.ms o'_1.cn ∧
     k Out.normal
     (AS.mk
     [((3 : Nat), AV.ptr (19 : Nat) (0 : Nat) (0 : Nat)),
     ((4 : Nat), AV.ptr (4 : Nat) (0 : Nat) (0 : Nat)),
     ((5 : Nat), AV.ptr (5 : Nat) (0 : Nat) (0 : Nat)),
     ((6 : Nat),
     AV.int IntKind.i64
     (IntKind.i64.wrap
     (now +
     [(0 : Int), (1 : Int), (0 : Int), (20 : Int),
     (21 : Int), (5 : Int)].getD
     (nextR l n (6 : Int)).toNat (0 : Int)))),
     ((7 : Nat),
     AV.int IntKind.i64 (IntKind.i64.wrap (i + (1 : Int))))]
     [((4 : Nat),
     AV.box (57 : Nat)
     [AV.int IntKind.i64 k'.n, AV.int IntKind.i64 k'.st,
     AV.int IntKind.u32 k'.a, AV.int IntKind.i64 k'.cmd,
     AV.int IntKind.i64 k'.len, AV.ints false IntKind.u8 k'.s,
     AV.int IntKind.i64 k'.q, AV.int IntKind.i64 k'.t]),
     ((5 : Nat),
     AV.box (57 : Nat)
     [AV.int IntKind.i64 k'_1.n, AV.int IntKind.i64 k'_1.st,
     AV.int IntKind.u32 k'_1.a, AV.int IntKind.i64 k'_1.cmd,
     AV.int IntKind.i64 k'_1.len,
     AV.ints false IntKind.u8 k'_1.s,
     AV.int IntKind.i64 k'_1.q, AV.int IntKind.i64 k'_1.t]),
     ((19 : Nat),
     AV.box (83 : Nat)
     [AV.ints false IntKind.i64 l,
     AV.int IntKind.i64
     (nextN l (nextN l (nextN l n)))])])))) ∧
     ∀ (K : AS → Prop),
     (∀ (l_1 : List Int),
     RngL IntKind.u8 l_1 →
     l_1.length = clampN (59 : Int) →
     K
     (AS.mk
     [((3 : Nat), AV.ptr (19 : Nat) (0 : Nat) (0 : Nat)),
     ((4 : Nat), AV.ptr (4 : Nat) (0 : Nat) (0 : Nat)),
     ((5 : Nat), AV.ptr (5 : Nat) (0 : Nat) (0 : Nat)),
     ((6 : Nat),
     AV.int IntKind.i64
     (IntKind.i64.wrap
     (now +
     [(0 : Int), (1 : Int), (0 : Int), (20 : Int), (21 : Int),
     (5 : Int)].getD
     (nextR l n (6 : Int)).toNat (0 : Int)))),
     ((7 : Nat), AV.int IntKind.i64 i),
     ((8 : Nat), AV.ptr (8 : Nat) (0 : Nat) (0 : Nat)),
     ((9 : Nat), AV.ptr (9 : Nat) (0 : Nat) (0 : Nat)),
     ((16 : Nat), AV.ptr (16 : Nat) (0 : Nat) (0 : Nat)),
     ((20 : Nat), AV.int IntKind.i64 i),
     ((21 : Nat), AV.bool (decide (i < (60 : Int)))), ((22 : Nat), AV.bool true),
     ((23 : Nat), AV.ptr (19 : Nat) (0 : Nat) (0 : Nat)),
     ((24 : Nat), AV.bool (decide (n < @Nat.cast Int _ l.length))),
     ((25 : Nat), AV.bool true), ((28 : Nat), AV.int IntKind.i64 now),
     ((29 : Nat), AV.ownf (29 : Nat)),
     ((30 : Nat), AV.ptr (19 : Nat) (0 : Nat) (0 : Nat)),
     ((31 : Nat), AV.int IntKind.i64 (nextR l n (6 : Int))),
     ((32 : Nat), AV.ptr (29 : Nat) (nextR l n (6 : Int)).toNat (0 : Nat)),
     ((33 : Nat),
     AV.int IntKind.i64
     ([(0 : Int), (1 : Int), (0 : Int), (20 : Int), (21 : Int),
     (5 : Int)].getD
     (nextR l n (6 : Int)).toNat (0 : Int))),
     ((34 : Nat),
     AV.int IntKind.i64
     (IntKind.i64.wrap
     (now +
     [(0 : Int), (1 : Int), (0 : Int), (20 : Int), (21 : Int),
     (5 : Int)].getD
     (nextR l n (6 : Int)).toNat (0 : Int)))),
     ((35 : Nat), AV.ptr (19 : Nat) (0 : Nat) (0 : Nat)),
     ((36 : Nat), AV.int IntKind.i64 (nextR l (nextN l n) (8 : Int))),
     ((53 : Nat), AV.bool false),
     ((54 : Nat), AV.bool (nextR l (nextN l n) (8 : Int) == (0 : Int))),
     ((82 : Nat), AV.bool false),
     ((83 : Nat), AV.bool (nextR l (nextN l n) (8 : Int) == (1 : Int))),
     ((96 : Nat), AV.bool false),
     ((97 : Nat), AV.bool (nextR l (nextN l n) (8 : Int) == (2 : Int))),
     ((98 : Nat), AV.bool (nextR l (nextN l n) (8 : Int) == (3 : Int))),
     ((117 : Nat), AV.bool true),
     ((118 : Nat), AV.bool (nextR l (nextN l n) (8 : Int) == (4 : Int))),
     ((119 : Nat), AV.ptr (5 : Nat) (0 : Nat) (2 : Nat)),
     ((120 : Nat), AV.int IntKind.u32 ka'),
     ((121 : Nat), AV.ptr (5 : Nat) (0 : Nat) (6 : Nat)),
     ((122 : Nat), AV.int IntKind.i64 kq'),
     ((123 : Nat), AV.ptr (19 : Nat) (0 : Nat) (0 : Nat)),
     ((124 : Nat), AV.int IntKind.i64 (nextR l (nextN l (nextN l n)) (9 : Int))),
     ((125 : Nat), AV.ownf (125 : Nat)),
     ((126 : Nat),
     AV.agg
     [AV.int IntKind.u32 ka', AV.bool false, AV.int IntKind.i64 (0 : Int),
     AV.int IntKind.i64 (0 : Int), AV.int IntKind.i64 kq',
     AV.ownf (125 : Nat)])]
     [((4 : Nat),
     AV.box (57 : Nat)
     [AV.int IntKind.i64 kn, AV.int IntKind.i64 kst, AV.int IntKind.u32 ka,
     AV.int IntKind.i64 kc, AV.int IntKind.i64 kl,
     AV.ints false IntKind.u8 ks, AV.int IntKind.i64 kq,
     AV.int IntKind.i64 kt]),
     ((5 : Nat),
     AV.box (57 : Nat)
     [AV.int IntKind.i64 kn', AV.int IntKind.i64 kst',
     AV.int IntKind.u32 ka', AV.int IntKind.i64 kc',
     AV.int IntKind.i64 kl', AV.ints false IntKind.u8 ks',
     AV.int IntKind.i64 kq', AV.int IntKind.i64 kt']),
     ((8 : Nat),
     AV.box (59 : Nat) [AV.nil, AV.bool false, AV.nil, AV.bool false]),
     ((9 : Nat),
     AV.box (59 : Nat) [AV.nil, AV.bool false, AV.nil, AV.bool false]),
     ((16 : Nat),
     AV.box (38 : Nat)
     [AV.int IntKind.u32 ka', AV.bool false, AV.int IntKind.i64 (0 : Int),
     AV.int IntKind.i64 (0 : Int), AV.int IntKind.i64 kq',
     AV.ownf (125 : Nat)]),
     ((19 : Nat),
     AV.box (83 : Nat)
     [AV.ints false IntKind.i64 l,
     AV.int IntKind.i64 (nextN l (nextN l (nextN l n)))]),
     ((29 : Nat),
     AV.lini (3 : Nat) IntKind.i64
     [(0 : Int), (1 : Int), (0 : Int), (20 : Int), (21 : Int), (5 : Int)]),
     ((125 : Nat), AV.lini (5 : Nat) IntKind.u8 l_1)])) →
     ∀ (l_1 : List Int),
     RngL IntKind.u8 l_1 →
     l_1.length = clampN (59 : Int) →
     K
     (AS.mk
     [((3 : Nat), AV.ptr (19 : Nat) (0 : Nat) (0 : Nat)),
     ((4 : Nat), AV.ptr (4 : Nat) (0 : Nat) (0 : Nat)),
     ((5 : Nat), AV.ptr (5 : Nat) (0 : Nat) (0 : Nat)),
     ((6 : Nat),
     AV.int IntKind.i64
     (IntKind.i64.wrap
     (now +
     [(0 : Int), (1 : Int), (0 : Int), (20 : Int), (21 : Int),
     (5 : Int)].getD
     (nextR l n (6 : Int)).toNat (0 : Int)))),
     ((7 : Nat), AV.int IntKind.i64 i),
     ((8 : Nat), AV.ptr (8 : Nat) (0 : Nat) (0 : Nat)),
     ((9 : Nat), AV.ptr (9 : Nat) (0 : Nat) (0 : Nat)),
     ((16 : Nat), AV.ptr (16 : Nat) (0 : Nat) (0 : Nat)),
     ((20 : Nat), AV.int IntKind.i64 i),
     ((21 : Nat), AV.bool (decide (i < (60 : Int)))), ((22 : Nat), AV.bool true),
     ((23 : Nat), AV.ptr (19 : Nat) (0 : Nat) (0 : Nat)),
     ((24 : Nat), AV.bool (decide (n < @Nat.cast Int _ l.length))),
     ((25 : Nat), AV.bool true), ((28 : Nat), AV.int IntKind.i64 now),
     ((29 : Nat), AV.ownf (29 : Nat)),
     ((30 : Nat), AV.ptr (19 : Nat) (0 : Nat) (0 : Nat)),
     ((31 : Nat), AV.int IntKind.i64 (nextR l n (6 : Int))),
     ((32 : Nat), AV.ptr (29 : Nat) (nextR l n (6 : Int)).toNat (0 : Nat)),
     ((33 : Nat),
     AV.int IntKind.i64
     ([(0 : Int), (1 : Int), (0 : Int), (20 : Int), (21 : Int),
     (5 : Int)].getD
     (nextR l n (6 : Int)).toNat (0 : Int))),
     ((34 : Nat),
     AV.int IntKind.i64
     (IntKind.i64.wrap
     (now +
     [(0 : Int), (1 : Int), (0 : Int), (20 : Int), (21 : Int),
     (5 : Int)].getD
     (nextR l n (6 : Int)).toNat (0 : Int)))),
     ((35 : Nat), AV.ptr (19 : Nat) (0 : Nat) (0 : Nat)),
     ((36 : Nat), AV.int IntKind.i64 (nextR l (nextN l n) (8 : Int))),
     ((53 : Nat), AV.bool false),
     ((54 : Nat), AV.bool (nextR l (nextN l n) (8 : Int) == (0 : Int))),
     ((82 : Nat), AV.bool false),
     ((83 : Nat), AV.bool (nextR l (nextN l n) (8 : Int) == (1 : Int))),
     ((96 : Nat), AV.bool false),
     ((97 : Nat), AV.bool (nextR l (nextN l n) (8 : Int) == (2 : Int))),
     ((98 : Nat), AV.bool (nextR l (nextN l n) (8 : Int) == (3 : Int))),
     ((117 : Nat), AV.bool true),
     ((118 : Nat), AV.bool (nextR l (nextN l n) (8 : Int) == (4 : Int))),
     ((119 : Nat), AV.ptr (5 : Nat) (0 : Nat) (2 : Nat)),
     ((120 : Nat), AV.int IntKind.u32 ka'),
     ((121 : Nat), AV.ptr (5 : Nat) (0 : Nat) (6 : Nat)),
     ((122 : Nat), AV.int IntKind.i64 kq'),
     ((123 : Nat), AV.ptr (19 : Nat) (0 : Nat) (0 : Nat)),
     ((124 : Nat), AV.int IntKind.i64 (nextR l (nextN l (nextN l n)) (9 : Int))),
     ((125 : Nat), AV.ownf (125 : Nat)),
     ((126 : Nat),
     AV.agg
     [AV.int IntKind.u32 ka', AV.bool false, AV.int IntKind.i64 (0 : Int),
     AV.int IntKind.i64 (0 : Int), AV.int IntKind.i64 kq',
     AV.ownf (125 : Nat)])]
     [((4 : Nat),
     AV.box (57 : Nat)
     [AV.int IntKind.i64 kn, AV.int IntKind.i64 kst, AV.int IntKind.u32 ka,
     AV.int IntKind.i64 kc, AV.int IntKind.i64 kl,
     AV.ints false IntKind.u8 ks, AV.int IntKind.i64 kq,
     AV.int IntKind.i64 kt]),
     ((5 : Nat),
     AV.box (57 : Nat)
     [AV.int IntKind.i64 kn', AV.int IntKind.i64 kst',
     AV.int IntKind.u32 ka', AV.int IntKind.i64 kc',
     AV.int IntKind.i64 kl', AV.ints false IntKind.u8 ks',
     AV.int IntKind.i64 kq', AV.int IntKind.i64 kt']),
     ((8 : Nat),
     AV.box (59 : Nat) [AV.nil, AV.bool false, AV.nil, AV.bool false]),
     ((9 : Nat),
     AV.box (59 : Nat) [AV.nil, AV.bool false, AV.nil, AV.bool false]),
     ((16 : Nat),
     AV.box (38 : Nat)
     [AV.int IntKind.u32 ka', AV.bool false, AV.int IntKind.i64 (0 : Int),
     AV.int IntKind.i64 (0 : Int), AV.int IntKind.i64 kq',
     AV.ownf (125 : Nat)]),
     ((19 : Nat),
     AV.box (83 : Nat)
     [AV.ints false IntKind.i64 l,
     AV.int IntKind.i64 (nextN l (nextN l (nextN l n)))]),
     ((29 : Nat),
     AV.lini (3 : Nat) IntKind.i64
     [(0 : Int), (1 : Int), (0 : Int), (20 : Int), (21 : Int), (5 : Int)]),
     ((125 : Nat), AV.lini (5 : Nat) IntKind.u8 l_1)])) ∧
     ∀ (K : AS → Prop),
     chk
     (decide
     ((0 : Int) < (9 : Int) ∧
     (9 : Int) ≤ (1000000 : Int) ∧
     (0 : Int) ≤ nextN l (nextN l n) ∧ nextN l (nextN l n) ≤ @Nat.cast Int _ l.length))
     ((∀ (l_1 : List Int),
     RngL IntKind.u8 l_1 →
     l_1.length = clampN (59 : Int) →
     K
     (AS.mk
     [((3 : Nat), AV.ptr (19 : Nat) (0 : Nat) (0 : Nat)),
     ((4 : Nat), AV.ptr (4 : Nat) (0 : Nat) (0 : Nat)),
     ((5 : Nat), AV.ptr (5 : Nat) (0 : Nat) (0 : Nat)),
     ((6 : Nat),
     AV.int IntKind.i64
     (IntKind.i64.wrap
     (now +
     [(0 : Int), (1 : Int), (0 : Int), (20 : Int), (21 : Int),
     (5 : Int)].getD
     (nextR l n (6 : Int)).toNat (0 : Int)))),
     ((7 : Nat), AV.int IntKind.i64 i),
     ((8 : Nat), AV.ptr (8 : Nat) (0 : Nat) (0 : Nat)),
     ((9 : Nat), AV.ptr (9 : Nat) (0 : Nat) (0 : Nat)),
     ((16 : Nat), AV.ptr (16 : Nat) (0 : Nat) (0 : Nat)),
     ((20 : Nat), AV.int IntKind.i64 i),
     ((21 : Nat), AV.bool (decide (i < (60 : Int)))), ((22 : Nat), AV.bool true),
     ((23 : Nat), AV.ptr (19 : Nat) (0 : Nat) (0 : Nat)),
     ((24 : Nat), AV.bool (decide (n < @Nat.cast Int _ l.length))),
     ((25 : Nat), AV.bool true), ((28 : Nat), AV.int IntKind.i64 now),
     ((29 : Nat), AV.ownf (29 : Nat)),
     ((30 : Nat), AV.ptr (19 : Nat) (0 : Nat) (0 : Nat)),
     ((31 : Nat), AV.int IntKind.i64 (nextR l n (6 : Int))),
     ((32 : Nat), AV.ptr (29 : Nat) (nextR l n (6 : Int)).toNat (0 : Nat)),
     ((33 : Nat),
     AV.int IntKind.i64
     ([(0 : Int), (1 : Int), (0 : Int), (20 : Int), (21 : Int),
     (5 : Int)].getD
     (nextR l n (6 : Int)).toNat (0 : Int))),
     ((34 : Nat),
     AV.int IntKind.i64
     (IntKind.i64.wrap
     (now +
     [(0 : Int), (1 : Int), (0 : Int), (20 : Int), (21 : Int),
     (5 : Int)].getD
     (nextR l n (6 : Int)).toNat (0 : Int)))),
     ((35 : Nat), AV.ptr (19 : Nat) (0 : Nat) (0 : Nat)),
     ((36 : Nat), AV.int IntKind.i64 (nextR l (nextN l n) (8 : Int))),
     ((53 : Nat), AV.bool false),
     ((54 : Nat), AV.bool (nextR l (nextN l n) (8 : Int) == (0 : Int))),
     ((82 : Nat), AV.bool false),
     ((83 : Nat), AV.bool (nextR l (nextN l n) (8 : Int) == (1 : Int))),
     ((96 : Nat), AV.bool false),
     ((97 : Nat), AV.bool (nextR l (nextN l n) (8 : Int) == (2 : Int))),
     ((98 : Nat), AV.bool (nextR l (nextN l n) (8 : Int) == (3 : Int))),
     ((117 : Nat), AV.bool true),
     ((118 : Nat), AV.bool (nextR l (nextN l n) (8 : Int) == (4 : Int))),
     ((119 : Nat), AV.ptr (5 : Nat) (0 : Nat) (2 : Nat)),
     ((120 : Nat), AV.int IntKind.u32 ka'),
     ((121 : Nat), AV.ptr (5 : Nat) (0 : Nat) (6 : Nat)),
     ((122 : Nat), AV.int IntKind.i64 kq'),
     ((123 : Nat), AV.ptr (19 : Nat) (0 : Nat) (0 : Nat)),
     ((124 : Nat), AV.int IntKind.i64 (nextR l (nextN l (nextN l n)) (9 : Int))),
     ((125 : Nat), AV.ownf (125 : Nat)),
     ((126 : Nat),
     AV.agg
     [AV.int IntKind.u32 ka', AV.bool false, AV.int IntKind.i64 (0 : Int),
     AV.int IntKind.i64 (0 : Int), AV.int IntKind.i64 kq',
     AV.ownf (125 : Nat)])]
     [((4 : Nat),
     AV.box (57 : Nat)
     [AV.int IntKind.i64 kn, AV.int IntKind.i64 kst, AV.int IntKind.u32 ka,
     AV.int IntKind.i64 kc, AV.int IntKind.i64 kl,
     AV.ints false IntKind.u8 ks, AV.int IntKind.i64 kq,
     AV.int IntKind.i64 kt]),
     ((5 : Nat),
     AV.box (57 : Nat)
     [AV.int IntKind.i64 kn', AV.int IntKind.i64 kst',
     AV.int IntKind.u32 ka', AV.int IntKind.i64 kc',
     AV.int IntKind.i64 kl', AV.ints false IntKind.u8 ks',
     AV.int IntKind.i64 kq', AV.int IntKind.i64 kt']),
     ((8 : Nat),
     AV.box (59 : Nat) [AV.nil, AV.bool false, AV.nil, AV.bool false]),
     ((9 : Nat),
     AV.box (59 : Nat) [AV.nil, AV.bool false, AV.nil, AV.bool false]),
     ((16 : Nat),
     AV.box (38 : Nat)
     [AV.int IntKind.u32 ka', AV.bool false, AV.int IntKind.i64 (0 : Int),
     AV.int IntKind.i64 (0 : Int), AV.int IntKind.i64 kq',
     AV.ownf (125 : Nat)]),
     ((19 : Nat),
     AV.box (83 : Nat)
     [AV.ints false IntKind.i64 l,
     AV.int IntKind.i64 (nextN l (nextN l (nextN l n)))]),
     ((29 : Nat),
     AV.lini (3 : Nat) IntKind.i64
     [(0 : Int), (1 : Int), (0 : Int), (20 : Int), (21 : Int), (5 : Int)]),
     ((125 : Nat), AV.lini (5 : Nat) IntKind.u8 l_1)])) ∧
     ∀ (K : AS → Prop),
     (∀ (l_1 : List Int),
     RngL IntKind.u8 l_1 →
     l_1.length = clampN (59 : Int) →
     K
     (AS.mk
     [((3 : Nat), AV.ptr (19 : Nat) (0 : Nat) (0 : Nat)),
     ((4 : Nat), AV.ptr (4 : Nat) (0 : Nat) (0 : Nat)),
     ((5 : Nat), AV.ptr (5 : Nat) (0 : Nat) (0 : Nat)),
     ((6 : Nat),
     AV.int IntKind.i64
     (IntKind.i64.wrap
     (now +
     [(0 : Int), (1 : Int), (0 : Int), (20 : Int), (21 : Int),
     (5 : Int)].getD
     (nextR l n (6 : Int)).toNat (0 : Int)))),
     ((7 : Nat), AV.int IntKind.i64 i),
     ((8 : Nat), AV.ptr (8 : Nat) (0 : Nat) (0 : Nat)),
     ((9 : Nat), AV.ptr (9 : Nat) (0 : Nat) (0 : Nat)),
     ((16 : Nat), AV.ptr (16 : Nat) (0 : Nat) (0 : Nat)),
     ((20 : Nat), AV.int IntKind.i64 i),
     ((21 : Nat), AV.bool (decide (i < (60 : Int)))),
     ((22 : Nat), AV.bool true),
     ((23 : Nat), AV.ptr (19 : Nat) (0 : Nat) (0 : Nat)),
     ((24 : Nat), AV.bool (decide (n < @Nat.cast Int _ l.length))),
     ((25 : Nat), AV.bool true), ((28 : Nat), AV.int IntKind.i64 now),
     ((29 : Nat), AV.ownf (29 : Nat)),
     ((30 : Nat), AV.ptr (19 : Nat) (0 : Nat) (0 : Nat)),
     ((31 : Nat), AV.int IntKind.i64 (nextR l n (6 : Int))),
     ((32 : Nat), AV.ptr (29 : Nat) (nextR l n (6 : Int)).toNat (0 : Nat)),
     ((33 : Nat),
     AV.int IntKind.i64
     ([(0 : Int), (1 : Int), (0 : Int), (20 : Int), (21 : Int),
     (5 : Int)].getD
     (nextR l n (6 : Int)).toNat (0 : Int))),
     ((34 : Nat),
     AV.int IntKind.i64
     (IntKind.i64.wrap
     (now +
     [(0 : Int), (1 : Int), (0 : Int), (20 : Int), (21 : Int),
     (5 : Int)].getD
     (nextR l n (6 : Int)).toNat (0 : Int)))),
     ((35 : Nat), AV.ptr (19 : Nat) (0 : Nat) (0 : Nat)),
     ((36 : Nat), AV.int IntKind.i64 (nextR l (nextN l n) (8 : Int))),
     ((53 : Nat), AV.bool false),
     ((54 : Nat), AV.bool (nextR l (nextN l n) (8 : Int) == (0 : Int))),
     ((82 : Nat), AV.bool false),
     ((83 : Nat), AV.bool (nextR l (nextN l n) (8 : Int) == (1 : Int))),
     ((96 : Nat), AV.bool false),
     ((97 : Nat), AV.bool (nextR l (nextN l n) (8 : Int) == (2 : Int))),
     ((98 : Nat), AV.bool (nextR l (nextN l n) (8 : Int) == (3 : Int))),
     ((117 : Nat), AV.bool true),
     ((118 : Nat), AV.bool (nextR l (nextN l n) (8 : Int) == (4 : Int))),
     ((119 : Nat), AV.ptr (5 : Nat) (0 : Nat) (2 : Nat)),
     ((120 : Nat), AV.int IntKind.u32 ka'),
     ((121 : Nat), AV.ptr (5 : Nat) (0 : Nat) (6 : Nat)),
     ((122 : Nat), AV.int IntKind.i64 kq'),
     ((123 : Nat), AV.ptr (19 : Nat) (0 : Nat) (0 : Nat)),
     ((124 : Nat),
     AV.int IntKind.i64 (nextR l (nextN l (nextN l n)) (9 : Int))),
     ((125 : Nat), AV.ownf (125 : Nat)),
     ((126 : Nat),
     AV.agg
     [AV.int IntKind.u32 ka', AV.bool false,
     AV.int IntKind.i64 (0 : Int), AV.int IntKind.i64 (0 : Int),
     AV.int IntKind.i64 kq', AV.ownf (125 : Nat)])]
     [((4 : Nat),
     AV.box (57 : Nat)
     [AV.int IntKind.i64 kn, AV.int IntKind.i64 kst,
     AV.int IntKind.u32 ka, AV.int IntKind.i64 kc,
     AV.int IntKind.i64 kl, AV.ints false IntKind.u8 ks,
     AV.int IntKind.i64 kq, AV.int IntKind.i64 kt]),
     ((5 : Nat),
     AV.box (57 : Nat)
     [AV.int IntKind.i64 kn', AV.int IntKind.i64 kst',
     AV.int IntKind.u32 ka', AV.int IntKind.i64 kc',
     AV.int IntKind.i64 kl', AV.ints false IntKind.u8 ks',
     AV.int IntKind.i64 kq', AV.int IntKind.i64 kt']),
     ((8 : Nat),
     AV.box (59 : Nat) [AV.nil, AV.bool false, AV.nil, AV.bool false]),
     ((9 : Nat),
     AV.box (59 : Nat) [AV.nil, AV.bool false, AV.nil, AV.bool false]),
     ((16 : Nat),
     AV.box (38 : Nat)
     [AV.int IntKind.u32 ka', AV.bool false,
     AV.int IntKind.i64 (0 : Int), AV.int IntKind.i64 (0 : Int),
     AV.int IntKind.i64 kq', AV.ownf (125 : Nat)]),
     ((19 : Nat),
     AV.box (83 : Nat)
     [AV.ints false IntKind.i64 l,
     AV.int IntKind.i64 (nextN l (nextN l (nextN l n)))]),
     ((29 : Nat),
     AV.lini (3 : Nat) IntKind.i64
     [(0 : Int), (1 : Int), (0 : Int), (20 : Int), (21 : Int),
     (5 : Int)]),
     ((125 : Nat), AV.lini (5 : Nat) IntKind.u8 l_1)])) →
     ∀ (l_1 : List Int),
     RngL IntKind.u8 l_1 →
     l_1.length = clampN (59 : Int) →
     K
     (AS.mk
     [((3 : Nat), AV.ptr (19 : Nat) (0 : Nat) (0 : Nat)),
     ((4 : Nat), AV.ptr (4 : Nat) (0 : Nat) (0 : Nat)),
     ((5 : Nat), AV.ptr (5 : Nat) (0 : Nat) (0 : Nat)),
     ((6 : Nat),
     AV.int IntKind.i64
     (IntKind.i64.wrap
     (now +
     [(0 : Int), (1 : Int), (0 : Int), (20 : Int), (21 : Int),
     (5 : Int)].getD
     (nextR l n (6 : Int)).toNat (0 : Int)))),
     ((7 : Nat), AV.int IntKind.i64 i),
     ((8 : Nat), AV.ptr (8 : Nat) (0 : Nat) (0 : Nat)),
     ((9 : Nat), AV.ptr (9 : Nat) (0 : Nat) (0 : Nat)),
     ((16 : Nat), AV.ptr (16 : Nat) (0 : Nat) (0 : Nat)),
     ((20 : Nat), AV.int IntKind.i64 i),
     ((21 : Nat), AV.bool (decide (i < (60 : Int)))),
     ((22 : Nat), AV.bool true),
     ((23 : Nat), AV.ptr (19 : Nat) (0 : Nat) (0 : Nat)),
     ((24 : Nat), AV.bool (decide (n < @Nat.cast Int _ l.length))),
     ((25 : Nat), AV.bool true), ((28 : Nat), AV.int IntKind.i64 now),
     ((29 : Nat), AV.ownf (29 : Nat)),
     ((30 : Nat), AV.ptr (19 : Nat) (0 : Nat) (0 : Nat)),
     ((31 : Nat), AV.int IntKind.i64 (nextR l n (6 : Int))),
     ((32 : Nat), AV.ptr (29 : Nat) (nextR l n (6 : Int)).toNat (0 : Nat)),
     ((33 : Nat),
     AV.int IntKind.i64
     ([(0 : Int), (1 : Int), (0 : Int), (20 : Int), (21 : Int),
     (5 : Int)].getD
     (nextR l n (6 : Int)).toNat (0 : Int))),
     ((34 : Nat),
     AV.int IntKind.i64
     (IntKind.i64.wrap
     (now +
     [(0 : Int), (1 : Int), (0 : Int), (20 : Int), (21 : Int),
     (5 : Int)].getD
     (nextR l n (6 : Int)).toNat (0 : Int)))),
     ((35 : Nat), AV.ptr (19 : Nat) (0 : Nat) (0 : Nat)),
     ((36 : Nat), AV.int IntKind.i64 (nextR l (nextN l n) (8 : Int))),
     ((53 : Nat), AV.bool false),
     ((54 : Nat), AV.bool (nextR l (nextN l n) (8 : Int) == (0 : Int))),
     ((82 : Nat), AV.bool false),
     ((83 : Nat), AV.bool (nextR l (nextN l n) (8 : Int) == (1 : Int))),
     ((96 : Nat), AV.bool false),
     ((97 : Nat), AV.bool (nextR l (nextN l n) (8 : Int) == (2 : Int))),
     ((98 : Nat), AV.bool (nextR l (nextN l n) (8 : Int) == (3 : Int))),
     ((117 : Nat), AV.bool true),
     ((118 : Nat), AV.bool (nextR l (nextN l n) (8 : Int) == (4 : Int))),
     ((119 : Nat), AV.ptr (5 : Nat) (0 : Nat) (2 : Nat)),
     ((120 : Nat), AV.int IntKind.u32 ka'),
     ((121 : Nat), AV.ptr (5 : Nat) (0 : Nat) (6 : Nat)),
     ((122 : Nat), AV.int IntKind.i64 kq'),
     ((123 : Nat), AV.ptr (19 : Nat) (0 : Nat) (0 : Nat)),
     ((124 : Nat),
     AV.int IntKind.i64 (nextR l (nextN l (nextN l n)) (9 : Int))),
     ((125 : Nat), AV.ownf (125 : Nat)),
     ((126 : Nat),
     AV.agg
     [AV.int IntKind.u32 ka', AV.bool false,
     AV.int IntKind.i64 (0 : Int), AV.int IntKind.i64 (0 : Int),
     AV.int IntKind.i64 kq', AV.ownf (125 : Nat)])]
     [((4 : Nat),
     AV.box (57 : Nat)
     [AV.int IntKind.i64 kn, AV.int IntKind.i64 kst,
     AV.int IntKind.u32 ka, AV.int IntKind.i64 kc,
     AV.int IntKind.i64 kl, AV.ints false IntKind.u8 ks,
     AV.int IntKind.i64 kq, AV.int IntKind.i64 kt]),
     ((5 : Nat),
     AV.box (57 : Nat)
     [AV.int IntKind.i64 kn', AV.int IntKind.i64 kst',
     AV.int IntKind.u32 ka', AV.int IntKind.i64 kc',
     AV.int IntKind.i64 kl', AV.ints false IntKind.u8 ks',
     AV.int IntKind.i64 kq', AV.int IntKind.i64 kt']),
     ((8 : Nat),
     AV.box (59 : Nat) [AV.nil, AV.bool false, AV.nil, AV.bool false]),
     ((9 : Nat),
     AV.box (59 : Nat) [AV.nil, AV.bool false, AV.nil, AV.bool false]),
     ((16 : Nat),
     AV.box (38 : Nat)
     [AV.int IntKind.u32 ka', AV.bool false,
     AV.int IntKind.i64 (0 : Int), AV.int IntKind.i64 (0 : Int),
     AV.int IntKind.i64 kq', AV.ownf (125 : Nat)]),
     ((19 : Nat),
     AV.box (83 : Nat)
     [AV.ints false IntKind.i64 l,
     AV.int IntKind.i64 (nextN l (nextN l (nextN l n)))]),
     ((29 : Nat),
     AV.lini (3 : Nat) IntKind.i64
     [(0 : Int), (1 : Int), (0 : Int), (20 : Int), (21 : Int),
     (5 : Int)]),
     ((125 : Nat), AV.lini (5 : Nat) IntKind.u8 l_1)])) →
     chk
     (decide
     ((0 : Int) < (9 : Int) ∧
     (9 : Int) ≤ (1000000 : Int) ∧
     (0 : Int) ≤ nextN l (nextN l n) ∧ nextN l (nextN l n) ≤ @Nat.cast Int _ l.length))
     (∀ (l_1 : List Int),
     RngL IntKind.u8 l_1 →
     l_1.length = clampN (59 : Int) →
     K
     (AS.mk
     [((3 : Nat), AV.ptr (19 : Nat) (0 : Nat) (0 : Nat)),
     ((4 : Nat), AV.ptr (4 : Nat) (0 : Nat) (0 : Nat)),
     ((5 : Nat), AV.ptr (5 : Nat) (0 : Nat) (0 : Nat)),
     ((6 : Nat),
     AV.int IntKind.i64
     (IntKind.i64.wrap
     (now +
     [(0 : Int), (1 : Int), (0 : Int), (20 : Int), (21 : Int),
     (5 : Int)].getD
     (nextR l n (6 : Int)).toNat (0 : Int)))),
     ((7 : Nat), AV.int IntKind.i64 i),
     ((8 : Nat), AV.ptr (8 : Nat) (0 : Nat) (0 : Nat)),
     ((9 : Nat), AV.ptr (9 : Nat) (0 : Nat) (0 : Nat)),
     ((16 : Nat), AV.ptr (16 : Nat) (0 : Nat) (0 : Nat)),
     ((20 : Nat), AV.int IntKind.i64 i),
     ((21 : Nat), AV.bool (decide (i < (60 : Int)))), ((22 : Nat), AV.bool true),
     ((23 : Nat), AV.ptr (19 : Nat) (0 : Nat) (0 : Nat)),
     ((24 : Nat), AV.bool (decide (n < @Nat.cast Int _ l.length))),
     ((25 : Nat), AV.bool true), ((28 : Nat), AV.int IntKind.i64 now),
     ((29 : Nat), AV.ownf (29 : Nat)),
     ((30 : Nat), AV.ptr (19 : Nat) (0 : Nat) (0 : Nat)),
     ((31 : Nat), AV.int IntKind.i64 (nextR l n (6 : Int))),
     ((32 : Nat), AV.ptr (29 : Nat) (nextR l n (6 : Int)).toNat (0 : Nat)),
     ((33 : Nat),
     AV.int IntKind.i64
     ([(0 : Int), (1 : Int), (0 : Int), (20 : Int), (21 : Int), (5 : Int)].getD
     (nextR l n (6 : Int)).toNat (0 : Int))),
     ((34 : Nat),
     AV.int IntKind.i64
     (IntKind.i64.wrap
     (now +
     [(0 : Int), (1 : Int), (0 : Int), (20 : Int), (21 : Int),
     (5 : Int)].getD
     (nextR l n (6 : Int)).toNat (0 : Int)))),
     ((35 : Nat), AV.ptr (19 : Nat) (0 : Nat) (0 : Nat)),
     ((36 : Nat), AV.int IntKind.i64 (nextR l (nextN l n) (8 : Int))),
     ((53 : Nat), AV.bool false),
     ((54 : Nat), AV.bool (nextR l (nextN l n) (8 : Int) == (0 : Int))),
     ((82 : Nat), AV.bool false),
     ((83 : Nat), AV.bool (nextR l (nextN l n) (8 : Int) == (1 : Int))),
     ((96 : Nat), AV.bool false),
     ((97 : Nat), AV.bool (nextR l (nextN l n) (8 : Int) == (2 : Int))),
     ((98 : Nat), AV.bool (nextR l (nextN l n) (8 : Int) == (3 : Int))),
     ((117 : Nat), AV.bool true),
     ((118 : Nat), AV.bool (nextR l (nextN l n) (8 : Int) == (4 : Int))),
     ((119 : Nat), AV.ptr (5 : Nat) (0 : Nat) (2 : Nat)),
     ((120 : Nat), AV.int IntKind.u32 ka'),
     ((121 : Nat), AV.ptr (5 : Nat) (0 : Nat) (6 : Nat)),
     ((122 : Nat), AV.int IntKind.i64 kq'),
     ((123 : Nat), AV.ptr (19 : Nat) (0 : Nat) (0 : Nat)),
     ((124 : Nat), AV.int IntKind.i64 (nextR l (nextN l (nextN l n)) (9 : Int))),
     ((125 : Nat), AV.ownf (125 : Nat)),
     ((126 : Nat),
     AV.agg
     [AV.int IntKind.u32 ka', AV.bool false, AV.int IntKind.i64 (0 : Int),
     AV.int IntKind.i64 (0 : Int), AV.int IntKind.i64 kq',
     AV.ownf (125 : Nat)])]
     [((4 : Nat),
     AV.box (57 : Nat)
     [AV.int IntKind.i64 kn, AV.int IntKind.i64 kst, AV.int IntKind.u32 ka,
     AV.int IntKind.i64 kc, AV.int IntKind.i64 kl,
     AV.ints false IntKind.u8 ks, AV.int IntKind.i64 kq,
     AV.int IntKind.i64 kt]),
     ((5 : Nat),
     AV.box (57 : Nat)
     [AV.int IntKind.i64 kn', AV.int IntKind.i64 kst', AV.int IntKind.u32 ka',
     AV.int IntKind.i64 kc', AV.int IntKind.i64 kl',
     AV.ints false IntKind.u8 ks', AV.int IntKind.i64 kq',
     AV.int IntKind.i64 kt']),
     ((8 : Nat), AV.box (59 : Nat) [AV.nil, AV.bool false, AV.nil, AV.bool false]),
     ((9 : Nat), AV.box (59 : Nat) [AV.nil, AV.bool false, AV.nil, AV.bool false]),
     ((16 : Nat),
     AV.box (38 : Nat)
     [AV.int IntKind.u32 ka', AV.bool false, AV.int IntKind.i64 (0 : Int),
     AV.int IntKind.i64 (0 : Int), AV.int IntKind.i64 kq',
     AV.ownf (125 : Nat)]),
     ((19 : Nat),
     AV.box (83 : Nat)
     [AV.ints false IntKind.i64 l,
     AV.int IntKind.i64 (nextN l (nextN l (nextN l n)))]),
     ((29 : Nat),
     AV.lini (3 : Nat) IntKind.i64
     [(0 : Int), (1 : Int), (0 : Int), (20 : Int), (21 : Int), (5 : Int)]),
     ((125 : Nat), AV.lini (5 : Nat) IntKind.u8 l_1)])))
     (chk (decide ((0 : Int) ≤ nextN l (nextN l n) ∧ nextN l (nextN l n) ≤ @Nat.cast Int _ l.length))
     (∀ (r : Rec) (n' : Int),
     RngR (0 : Nat) r →
     r.s.length ≤ (60 : Nat) →
     (0 : Int) ≤ n' ∧ n' ≤ ↑l.length →
     chk (decide (ks.length ≤ (100000 : Nat) ∧ (-1000000 : Int) ≤ kl ∧ kl ≤ (1000000 : Int)))
     (∀ (k' : Lk) (o' : Ou),
     recvL (Lk.mk kn kst ka kc kl ks kq kt)
     (IntKind.i64.wrap
     (now +
     [(0 : Int), (1 : Int), (0 : Int), (20 : Int), (21 : Int), (5 : Int)].getD
     (nextR l n (6 : Int)).toNat (0 : Int)))
     (Rec.mk r.a r.b r.c r.d r.f r.s) =
     (k', o') →
     chk
     (decide
     (ks'.length ≤ (100000 : Nat) ∧
     (-1000000 : Int) ≤ kl' ∧ kl' ≤ (1000000 : Int)))
     (∀ (k'_1 : Lk) (o'_1 : Ou),
     recvR (Lk.mk kn' kst' ka' kc' kl' ks' kq' kt')
     (IntKind.i64.wrap
     (now +
     [(0 : Int), (1 : Int), (0 : Int), (20 : Int), (21 : Int),
     (5 : Int)].getD
     (nextR l n (6 : Int)).toNat (0 : Int)))
     (Rec.mk r.a r.b r.c r.d r.f r.s) =
     (k'_1, o'_1) →
     Lk.mk k'.n k'.st k'.a k'.cmd k'.len k'.s k'.q k'.t =
     Lk.mk k'_1.n k'_1.st k'_1.a k'_1.cmd k'_1.len k'_1.s k'_1.q k'_1.t ∧
     Ou.mk o'.ps o'.dl o'.ms o'.cn = Ou.mk o'_1.ps o'_1.dl o'_1.ms o'_1.cn ∧
     k Out.normal
     (AS.mk
     [((3 : Nat), AV.ptr (19 : Nat) (0 : Nat) (0 : Nat)),
     ((4 : Nat), AV.ptr (4 : Nat) (0 : Nat) (0 : Nat)),
     ((5 : Nat), AV.ptr (5 : Nat) (0 : Nat) (0 : Nat)),
     ((6 : Nat),
     AV.int IntKind.i64
     (IntKind.i64.wrap
     (now +
     [(0 : Int), (1 : Int), (0 : Int), (20 : Int), (21 : Int),
     (5 : Int)].getD
     (nextR l n (6 : Int)).toNat (0 : Int)))),
     ((7 : Nat),
     AV.int IntKind.i64 (IntKind.i64.wrap (i + (1 : Int))))]
     [((4 : Nat),
     AV.box (57 : Nat)
     [AV.int IntKind.i64 k'.n, AV.int IntKind.i64 k'.st,
     AV.int IntKind.u32 k'.a, AV.int IntKind.i64 k'.cmd,
     AV.int IntKind.i64 k'.len, AV.ints false IntKind.u8 k'.s,
     AV.int IntKind.i64 k'.q, AV.int IntKind.i64 k'.t]),
     ((5 : Nat),
     AV.box (57 : Nat)
     [AV.int IntKind.i64 k'_1.n, AV.int IntKind.i64 k'_1.st,
     AV.int IntKind.u32 k'_1.a, AV.int IntKind.i64 k'_1.cmd,
     AV.int IntKind.i64 k'_1.len,
     AV.ints false IntKind.u8 k'_1.s, AV.int IntKind.i64 k'_1.q,
     AV.int IntKind.i64 k'_1.t]),
     ((19 : Nat),
     AV.box (83 : Nat)
     [AV.ints false IntKind.i64 l,
     AV.int IntKind.i64 n'])]))))))))))))))
     (k (Out.exit (0 : Nat)) (AS.mk [] [])))
     (k (Out.exit (0 : Nat)) (AS.mk [] []))) := by kernel_rfl

theorem i10_5 (k : Out → AS → Prop) (fuel : Nat) : ∀ (now i n : Int) (l : List Int) (kn kst ka kc kl kq kt : Int) (ks : List Int) (kn' kst' ka' kc' kl' kq' kt' : Int) (ks' : List Int), (60 - i).toNat < fuel → (0 ≤ i ∧ i ≤ 60 ∧ 0 ≤ n ∧ n ≤ l.length ∧ 0 ≤ now ∧ now ≤ 21 * i) → ((LInv ⟨kn, kst, ka, kc, kl, ks, kq, kt⟩ ∧ (⟨kn, kst, ka, kc, kl, ks, kq, kt⟩ : Lk) = ⟨kn', kst', ka', kc', kl', ks', kq', kt'⟩) ∧ k (.exit 0) ⟨[], []⟩) → iterL (stepL c10_0 kp10_5 tr10_5 (loopAt Proofs.Try.f10 5)) k fuel ⟨[(3, .ptr 19 0 0), (4, .ptr 4 0 0), (5, .ptr 5 0 0), (6, .int .i64 now), (7, .int .i64 i)], [(4, .box 57 [.int .i64 kn, .int .i64 kst, .int .u32 ka, .int .i64 kc, .int .i64 kl, .ints false .u8 ks, .int .i64 kq, .int .i64 kt]), (5, .box 57 [.int .i64 kn', .int .i64 kst', .int .u32 ka', .int .i64 kc', .int .i64 kl', .ints false .u8 ks', .int .i64 kq', .int .i64 kt']), (19, .box 83 [.ints false .i64 l, .int .i64 n])]⟩ := by
  induction fuel with
  | zero => intro now i n l kn kst ka kc kl kq kt ks kn' kst' ka' kc' kl' kq' kt' ks' hm; omega
  | succ fuel ih =>
    intro now i n l kn kst ka kc kl kq kt ks kn' kst' ka' kc' kl' kq' kt' ks' hm hp hk
    simp only [iterL]
    rw [q10_5]
    dsimp only
    obtain ⟨p1, p2, p3, p4, p5, p6⟩ := hp
    obtain ⟨⟨hI, hE⟩, hk⟩ := hk
    cases hE
    have a0 : 0 ≤ n ∧ n ≤ l.length := ⟨p3, p4⟩
    have a1 := nextN_rng a0
    have a2 := nextN_rng a1
    have a3 := nextN_rng a2
    have a4 := nextN_rng a3
    have i0 : 0 ≤ kl := hI.l0
    have i1 : kl ≤ 4096 := hI.l1
    have i2 : (ks.length : Int) ≤ kl := hI.ls
    refine br_dec (fun hc => br_dec (fun hd => ?_) (fun hd => hk)) (fun hc => hk)
    have r6 := nextR_rng l n 6 (by omega)
    have r9 := nextR_rng l (nextN l (nextN l n)) 9 (by omega)
    refine chk_dec (by omega) (chk_inB (by omega) (by omega) (chk_dec (by omega) (chk_dec (by omega) ?_)))
    have hT := getD_all (P := fun x => 0 ≤ x ∧ x ≤ 21) (L := ([0, 1, 0, 20, 21, 5] : List Int)) (by decide) (by decide) (nextR l n 6).toNat
    generalize ([0, 1, 0, 20, 21, 5] : List Int).getD (nextR l n 6).toNat 0 = z at *
    rw [wrap_i64 (n := now + z) (by omega) (by omega), wrap_i64 (n := i + 1) (by omega) (by omega)]
    have rcv : ∀ (p : Rec), (p.f = true → inK .u32 p.a = true) → ∀ k1 o1, recvL ⟨kn, kst, ka, kc, kl, ks, kq, kt⟩ (now + z) p = (k1, o1) → ∀ k2 o2, recvR ⟨kn, kst, ka, kc, kl, ks, kq, kt⟩ (now + z) p = (k2, o2) → k1 = k2 ∧ o1 = o2 ∧ LInv k1 := by
      intro p hp k1 o1 e1 k2 o2 e2
      have heq := e1.symm.trans ((recv_eq _ (now + z) p hI hp).trans e2)
      have inv' := recv_inv (now := now + z) (p := p) hI
      rw [e1] at inv'
      cases heq
      exact ⟨rfl, rfl, inv'⟩
    refine br_eq (fun _ => ?_) (fun _ => br_eq (fun _ => ?_) (fun _ => br_eq (fun _ => ?_) (fun _ => br_eq (fun _ => ?_) (fun _ => br_eq (fun _ => ?_) (fun _ => ?_)))))
    · refine chk_dec (by omega) (chk_dec (by omega) (fun r hr => chk_dec (by omega) (fun x hx hl => ?_)))
      rw [bne_self_eq_false, br_false]
      exact ⟨rfl, rfl, ih _ _ _ _ _ _ _ _ _ _ _ _ _ _ _ _ _ _ _ _ (by omega) ⟨by omega, by omega, by omega, by omega, by omega, by omega⟩ ⟨⟨answ_inv x hI, rfl⟩, hk⟩⟩
    · rw [tick_eq _ (now + z) hI]
      exact ⟨rfl, rfl, ih _ _ _ _ _ _ _ _ _ _ _ _ _ _ _ _ _ _ _ _ (by omega) ⟨by omega, by omega, by omega, by omega, by omega, by omega⟩ ⟨⟨tick_inv (now + z) hI, rfl⟩, hk⟩⟩
    · refine chk_dec (by omega) (fun x hx hl => chk_dec (by omega) (fun k1 o1 e1 => chk_dec (by omega) (fun k2 o2 e2 => ?_)))
      obtain ⟨rfl, rfl, hI'⟩ := rcv _ (fun _ => by show inK .u32 4294967295 = true; decide) k1 o1 e1 k2 o2 e2
      exact ⟨rfl, rfl, ih _ _ _ _ _ _ _ _ _ _ _ _ _ _ _ _ _ _ _ _ (by omega) ⟨by omega, by omega, by omega, by omega, by omega, by omega⟩ ⟨⟨hI', rfl⟩, hk⟩⟩
    · refine chk_dec (by omega) (fun x hx hl => chk_dec (by omega) (fun k1 o1 e1 => chk_dec (by omega) (fun k2 o2 e2 => ?_)))
      obtain ⟨rfl, rfl, hI'⟩ := rcv _ (fun _ => by show inK .u32 4294967295 = true; decide) k1 o1 e1 k2 o2 e2
      exact ⟨rfl, rfl, ih _ _ _ _ _ _ _ _ _ _ _ _ _ _ _ _ _ _ _ _ (by omega) ⟨by omega, by omega, by omega, by omega, by omega, by omega⟩ ⟨⟨hI', rfl⟩, hk⟩⟩
    · have hc9 : decide ((0 : Int) < 9 ∧ (9 : Int) ≤ 1000000 ∧ 0 ≤ nextN l (nextN l n) ∧ nextN l (nextN l n) ≤ (l.length : Int)) = true := decide_eq_true (by omega)
      simp only [hc9, chk_true, imp_self, implies_true, and_true, and_self]
      refine fun x hx hl => chk_dec (by omega) (fun k1 o1 e1 => chk_dec (by omega) (fun k2 o2 e2 => ?_))
      obtain ⟨rfl, rfl, hI'⟩ := rcv _ (fun h => by cases h) k1 o1 e1 k2 o2 e2
      exact ⟨rfl, rfl, ih _ _ _ _ _ _ _ _ _ _ _ _ _ _ _ _ _ _ _ _ (by omega) ⟨by omega, by omega, by omega, by omega, by omega, by omega⟩ ⟨⟨hI', rfl⟩, hk⟩⟩
    · refine chk_dec (by omega) (fun r n' hr hl hn' => chk_dec (by omega) (fun k1 o1 e1 => chk_dec (by omega) (fun k2 o2 e2 => ?_)))
      obtain ⟨rfl, rfl, hI'⟩ := rcv r (fun _ => hr.1) k1 o1 e1 k2 o2 e2
      exact ⟨rfl, rfl, ih _ _ _ _ _ _ _ _ _ _ _ _ _ _ _ _ _ _ _ _ (by omega) ⟨by omega, by omega, by omega, by omega, by omega, by omega⟩ ⟨⟨hI', rfl⟩, hk⟩⟩
theorem l10_5 : ∀ s k, L10_5 s k → Tri Proofs.Try.prog 152 (.loop (loopAt Proofs.Try.f10 5)) s k := by
  intro s k h
  unfold L10_5 at h
  split at h
  · obtain ⟨h1, h2⟩ := chk_iff.1 h
    exact iter_ok (c := c10_0) gamL_ok (l := u10) a10 rfl mixed_ok (by kernel_rfl) (ls := []) rfl (.inl rfl) trivial (kps := kp10_5) (tr := tr10_5) (_) (i10_5 k _ _ _ _ _ _ _ _ _ _ _ _ _ _ _ _ _ _ _ _ _ (Nat.lt_succ_self _) (of_decide_eq_true h1) h2)
  · exact h.elim
theorem p10_0 (l : List Int) (post : AV → Option AV → Prop) (hin : InRL [.ints false .i64 l]) (hie : InRO none) (h : post (.bool true) none) : Ok (runF c10 pm10 Proofs.Try.f10 [.ints false .i64 l] none (post)) := by
  refine ⟨?_⟩
  rw [t10_0]
  exact ⟨⟨⟨Int.le_refl 0, by show (0 : Int) ≤ 32; decide, Int.le_refl 0, (show (0 : Int) ≤ 1099511627776 by decide), Int.le_refl 0, (show (0 : Int) ≤ 4096 by decide), Int.le_refl 0, (fun h => by cases h), .inl rfl⟩, rfl⟩, h⟩
theorem k10 : Keeps Proofs.Try.prog 10 S10 := by
  refine ⟨?_, Proofs.Try.f10, by kernel_rfl, by kernel_rfl, by kernel_rfl⟩
  intro args e post h
  unfold S10 at h
  split at h
  · refine Spec.inR fun hin hie => fun_ok' (c := c10) gamL_ok (l := u10) a10 rfl mixed_ok (fn := Proofs.Try.f10) (show Proofs.Try.prog.funcs[10]? = some Proofs.Try.f10 by kernel_rfl) (by kernel_rfl) (ls := [(5, L10_5)]) rfl (.inr (by kernel_rfl)) ⟨l10_5, trivial⟩ (pm := pm10) (by simp [c10]) (by rintro ⟨t, l, h⟩; cases h) ?_
    exact p10_0 _ _ hin hie h
  · exact h.elim
end Go.Proofs.Ytokeanadhihlfaa.V
