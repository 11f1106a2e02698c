import Derived.Test.YtokeanadhihlfaaPlans
import Derived.Test.YtokeanadhihlfaaMB
import Derived.Test.YtokeanadhihlfaaProg
import Derived.Test.YtokeanadhihlfaaS0
import Derived.Test.YtokeanadhihlfaaS1
import Derived.Test.YtokeanadhihlfaaS2
import Derived.Test.YtokeanadhihlfaaS3
import Derived.Test.YtokeanadhihlfaaS4
import Derived.Test.YtokeanadhihlfaaS5
import Derived.Test.YtokeanadhihlfaaB1
import Derived.Test.YtokeanadhihlfaaP7
import Derived.Test.YtokeanadhihlfaaL1
import Derived.Test.YtokeanadhihlfaaL2
import Derived.Test.YtokeanadhihlfaaL3
import Derived.Test.YtokeanadhihlfaaL4a
import Derived.Test.YtokeanadhihlfaaL4b
import Derived.Test.YtokeanadhihlfaaL4c
import Derived.Test.YtokeanadhihlfaaL5
import Derived.Test.YtokeanadhihlfaaPlansB
import Derived.KernelRfl
set_option linter.all false
set_option maxHeartbeats 1000000
namespace Go.Proofs.Ytokeanadhihlfaa.V
open Go
def pm15 : Pm := ⟨[.s, .i .i64, .r 0], .no, [.s]⟩
def u15 : List (Nat × Tr) := [(26, S26), (27, S27), (30, S30), (35, S35), (37, S37), (46, S46), (48, S48), (49, S49), (50, S50), (51, S51), (52, S52)]
theorem a15 : AllKeep Proofs.Try.prog u15 := ⟨k26, k27, k30, k35, k37, k46, k48, k49, k50, k51, k52, trivial⟩

def kp15_6 : List (Loc × Keep) := [(.t 0, .shp .s), (.t 2, .shp (.r 0)), (.t 7, .ptr), (.t 8, .ptr), (.t 9, .ptr), (.t 10, .shp .s), (.c 8 3, .shp (.i .u8)), (.c 9 3, .shp (.i .u8))]
def tr15_6 : Trim := .some [] [] [6] []
def L15_6 : LTr
  | ⟨[(0, .int .u32 ch), (2, .rs false 0 ps), (7, .ptr 25 0 0), (8, .ptr 8 0 0), (9, .ptr 9 0 0), (10, .int .i64 i)], [(8, .box 74 [.int .u32 ph, .int .i64 pc, .int .i64 pl, .ints false .u8 pd, .int .i64 pq]), (9, .box 74 [.int .u32 ph', .int .i64 pc', .int .i64 pl', .ints false .u8 pd', .int .i64 pq']), (25, .box 83 [.ints false .i64 l, .int .i64 n])]⟩, k => chk (decide (0 ≤ i ∧ i ≤ 60 ∧ 0 ≤ n ∧ n ≤ l.length)) ((PInv ⟨ph, pc, pl, pd, pq⟩ ∧ (⟨ph, pc, pl, pd, pq⟩ : Pt) = ⟨ph', pc', pl', pd', pq'⟩) ∧ k (.exit 0) ⟨[], []⟩ ∧ k .ret ⟨[(6, .bool true)], []⟩)
  | _, _ => False
def c15_0 : Cfg := { n := 113, Γ := GamL, C := ofL u15, pm := pmL [(26, pm26), (27, pm27), (30, pm30), (35, pm35), (37, pm37), (46, pm46), (48, pm48), (49, pm49), (50, pm50), (51, pm51), (52, pm52)], plan := planB15, L := lpL [], unroll := nmL [], keep := kpL [(6, kp15_6)] }
def c15 : Cfg := { n := 113, Γ := GamL, C := ofL u15, pm := pmL [(26, pm26), (27, pm27), (30, pm30), (35, pm35), (37, pm37), (46, pm46), (48, pm48), (49, pm49), (50, pm50), (51, pm51), (52, pm52)], plan := planB15, L := lpL [(6, L15_6)], unroll := nmL [], keep := kpL [(6, kp15_6)] }
def S15 : Tr
  | [.int .u32 ch, .ints false .i64 l, .rs false 0 ps], none, post => post (.bool true) none
  | _, _, _ => False
theorem t15_0 (ch : Int) (l : List Int) (ps : List Rec) (post : AV → Option AV → Prop) : runF c15 pm15 Proofs.Try.f15 [.int .u32 ch, .ints false .i64 l, .rs false 0 ps] none post = (br (decide (@Nat.cast Int _ ps.length > (20 : Int))) (post (AV.bool true) none)
     ((PInv (Pt.mk (awaitP ch).ch (awaitP ch).cmd (awaitP ch).len (awaitP ch).s (awaitP ch).q) ∧
     Pt.mk (awaitP ch).ch (awaitP ch).cmd (awaitP ch).len (awaitP ch).s (awaitP ch).q =
     Pt.mk (awaitP ch).ch (awaitP ch).cmd (awaitP ch).len (awaitP ch).s (awaitP ch).q) ∧
     post (AV.bool true) none ∧ post (AV.bool true) none)) := by kernel_rfl
theorem q15_6 (ch i n : Int) (l : List Int) (ps : List Rec) (ph pc pl pq : Int) (pd : List Int) (ph' pc' pl' pq' : Int) (pd' : List Int) (k : Out → AS → Prop) : stepL c15_0 kp15_6 tr15_6 (loopAt Proofs.Try.f15 6) ⟨[(0, .int .u32 ch), (2, .rs false 0 ps), (7, .ptr 25 0 0), (8, .ptr 8 0 0), (9, .ptr 9 0 0), (10, .int .i64 i)], [(8, .box 74 [.int .u32 ph, .int .i64 pc, .int .i64 pl, .ints false .u8 pd, .int .i64 pq]), (9, .box 74 [.int .u32 ph', .int .i64 pc', .int .i64 pl', .ints false .u8 pd', .int .i64 pq']), (25, .box 83 [.ints false .i64 l, .int .i64 n])]⟩ k = (br (decide (i < (60 : Int)))
     (chk (decide ((0 : Int) ≤ n ∧ n ≤ @Nat.cast Int _ l.length))
     (∀ (r : Rec) (n' : Int),
     RngR (0 : Nat) r →
     r.s.length ≤ (60 : Nat) →
     (0 : Int) ≤ n' ∧ n' ≤ ↑l.length →
     br (decide (i < @Nat.cast Int _ ps.length))
     (chk (inB i ps.length)
     (br (decide (@Nat.cast Int _ (ps.getD i.toNat default).6.length > (100 : Int)))
     (k Out.ret (AS.mk [((6 : Nat), AV.bool true)] []))
     (chk
     (decide
     ((0 : Int) < (4 : Int) ∧ (4 : Int) ≤ (1000000 : Int) ∧ (0 : Int) ≤ n' ∧ n' ≤ @Nat.cast Int _ l.length))
     (br (decide (nextR l n' (4 : Int) > (0 : Int)))
     (chk
     (decide
     ((0 : Int) < (3 : Int) ∧
     (3 : Int) ≤ (1000000 : Int) ∧ (0 : Int) ≤ nextN l n' ∧ nextN l n' ≤ @Nat.cast Int _ l.length))
     (br (nextR l (nextN l n') (3 : Int) == (2 : Int))
     (chk
     (decide
     ((0 : Int) < (9 : Int) ∧
     (9 : Int) ≤ (1000000 : Int) ∧
     (0 : Int) ≤ nextN l (nextN l n') ∧ nextN l (nextN l n') ≤ @Nat.cast Int _ l.length))
     (∀ (l_1 : List Int),
     RngL IntKind.u8 l_1 →
     l_1.length = clampN (59 : Int) →
     chk
     (decide (pd.length ≤ (100000 : Nat) ∧ (-1000000 : Int) ≤ pl ∧ pl ≤ (1000000 : Int)))
     (∀ (x : Acc),
     acceptL (Pt.mk ph pc pl pd pq) (Rec.mk ch (0 : Int) (0 : Int) pq' false l_1) = x →
     chk
     (decide
     (pd'.length ≤ (100000 : Nat) ∧
     (-1000000 : Int) ≤ pl' ∧ pl' ≤ (1000000 : Int)))
     (∀ (x_1 : Acc),
     acceptR (Pt.mk ph' pc' pl' pd' pq')
     (Rec.mk ch (0 : Int) (0 : Int) pq' false l_1) =
     x_1 →
     Pt.mk x.p.ch x.p.cmd x.p.len x.p.s x.p.q =
     Pt.mk x_1.p.ch x_1.p.cmd x_1.p.len x_1.p.s x_1.p.q ∧
     br (x.c != x_1.c) (k Out.ret (AS.mk [((6 : Nat), AV.bool false)] []))
     (br (!strEq x.b x_1.b)
     (k Out.ret (AS.mk [((6 : Nat), AV.bool false)] []))
     (br (!x.ok == x_1.ok)
     (k Out.ret (AS.mk [((6 : Nat), AV.bool false)] []))
     (br
     (!decide (nextN l (nextN l (nextN l n')) < @Nat.cast Int _ l.length))
     (br (decide (i ≥ @Nat.cast Int _ ps.length))
     (k (Out.exit (0 : Nat)) (AS.mk [] []))
     (k Out.normal
     (AS.mk
     [((0 : Nat), AV.int IntKind.u32 ch),
     ((2 : Nat), AV.rs false (0 : Nat) ps),
     ((7 : Nat), AV.ptr (25 : Nat) (0 : Nat) (0 : Nat)),
     ((8 : Nat), AV.ptr (8 : Nat) (0 : Nat) (0 : Nat)),
     ((9 : Nat), AV.ptr (9 : Nat) (0 : Nat) (0 : Nat)),
     ((10 : Nat),
     AV.int IntKind.i64
     (IntKind.i64.wrap (i + (1 : Int))))]
     [((8 : Nat),
     AV.box (74 : Nat)
     [AV.int IntKind.u32 x.p.ch,
     AV.int IntKind.i64 x.p.cmd,
     AV.int IntKind.i64 x.p.len,
     AV.ints false IntKind.u8 x.p.s,
     AV.int IntKind.i64 x.p.q]),
     ((9 : Nat),
     AV.box (74 : Nat)
     [AV.int IntKind.u32 x_1.p.ch,
     AV.int IntKind.i64 x_1.p.cmd,
     AV.int IntKind.i64 x_1.p.len,
     AV.ints false IntKind.u8 x_1.p.s,
     AV.int IntKind.i64 x_1.p.q]),
     ((25 : Nat),
     AV.box (83 : Nat)
     [AV.ints false IntKind.i64 l,
     AV.int IntKind.i64
     (nextN l (nextN l (nextN l n')))])])))
     (k Out.normal
     (AS.mk
     [((0 : Nat), AV.int IntKind.u32 ch),
     ((2 : Nat), AV.rs false (0 : Nat) ps),
     ((7 : Nat), AV.ptr (25 : Nat) (0 : Nat) (0 : Nat)),
     ((8 : Nat), AV.ptr (8 : Nat) (0 : Nat) (0 : Nat)),
     ((9 : Nat), AV.ptr (9 : Nat) (0 : Nat) (0 : Nat)),
     ((10 : Nat),
     AV.int IntKind.i64 (IntKind.i64.wrap (i + (1 : Int))))]
     [((8 : Nat),
     AV.box (74 : Nat)
     [AV.int IntKind.u32 x.p.ch,
     AV.int IntKind.i64 x.p.cmd,
     AV.int IntKind.i64 x.p.len,
     AV.ints false IntKind.u8 x.p.s,
     AV.int IntKind.i64 x.p.q]),
     ((9 : Nat),
     AV.box (74 : Nat)
     [AV.int IntKind.u32 x_1.p.ch,
     AV.int IntKind.i64 x_1.p.cmd,
     AV.int IntKind.i64 x_1.p.len,
     AV.ints false IntKind.u8 x_1.p.s,
     AV.int IntKind.i64 x_1.p.q]),
     ((25 : Nat),
     AV.box (83 : Nat)
     [AV.ints false IntKind.i64 l,
     AV.int IntKind.i64
     (nextN l (nextN l (nextN l n')))])])))))))))
     (chk (decide (pd.length ≤ (100000 : Nat) ∧ (-1000000 : Int) ≤ pl ∧ pl ≤ (1000000 : Int)))
     (∀ (x : Acc),
     acceptL (Pt.mk ph pc pl pd pq)
     (Rec.mk ch (ps.getD i.toNat default).b (ps.getD i.toNat default).c
     (ps.getD i.toNat default).d (ps.getD i.toNat default).f
     (ps.getD i.toNat default).s) =
     x →
     chk
     (decide
     (pd'.length ≤ (100000 : Nat) ∧ (-1000000 : Int) ≤ pl' ∧ pl' ≤ (1000000 : Int)))
     (∀ (x_1 : Acc),
     acceptR (Pt.mk ph' pc' pl' pd' pq')
     (Rec.mk ch (ps.getD i.toNat default).b (ps.getD i.toNat default).c
     (ps.getD i.toNat default).d (ps.getD i.toNat default).f
     (ps.getD i.toNat default).s) =
     x_1 →
     Pt.mk x.p.ch x.p.cmd x.p.len x.p.s x.p.q =
     Pt.mk x_1.p.ch x_1.p.cmd x_1.p.len x_1.p.s x_1.p.q ∧
     br (x.c != x_1.c) (k Out.ret (AS.mk [((6 : Nat), AV.bool false)] []))
     (br (!strEq x.b x_1.b) (k Out.ret (AS.mk [((6 : Nat), AV.bool false)] []))
     (br (!x.ok == x_1.ok) (k Out.ret (AS.mk [((6 : Nat), AV.bool false)] []))
     (br (!decide (nextN l (nextN l n') < @Nat.cast Int _ l.length))
     (br (decide (i ≥ @Nat.cast Int _ ps.length))
     (k (Out.exit (0 : Nat)) (AS.mk [] []))
     (k Out.normal
     (AS.mk
     [((0 : Nat), AV.int IntKind.u32 ch),
     ((2 : Nat), AV.rs false (0 : Nat) ps),
     ((7 : Nat), AV.ptr (25 : Nat) (0 : Nat) (0 : Nat)),
     ((8 : Nat), AV.ptr (8 : Nat) (0 : Nat) (0 : Nat)),
     ((9 : Nat), AV.ptr (9 : Nat) (0 : Nat) (0 : Nat)),
     ((10 : Nat),
     AV.int IntKind.i64 (IntKind.i64.wrap (i + (1 : Int))))]
     [((8 : Nat),
     AV.box (74 : Nat)
     [AV.int IntKind.u32 x.p.ch, AV.int IntKind.i64 x.p.cmd,
     AV.int IntKind.i64 x.p.len,
     AV.ints false IntKind.u8 x.p.s,
     AV.int IntKind.i64 x.p.q]),
     ((9 : Nat),
     AV.box (74 : Nat)
     [AV.int IntKind.u32 x_1.p.ch, AV.int IntKind.i64 x_1.p.cmd,
     AV.int IntKind.i64 x_1.p.len,
     AV.ints false IntKind.u8 x_1.p.s,
     AV.int IntKind.i64 x_1.p.q]),
     ((25 : Nat),
     AV.box (83 : Nat)
     [AV.ints false IntKind.i64 l,
     AV.int IntKind.i64 (nextN l (nextN l n'))])])))
     (k Out.normal
     (AS.mk
     [((0 : Nat), AV.int IntKind.u32 ch),
     ((2 : Nat), AV.rs false (0 : Nat) ps),
     ((7 : Nat), AV.ptr (25 : Nat) (0 : Nat) (0 : Nat)),
     ((8 : Nat), AV.ptr (8 : Nat) (0 : Nat) (0 : Nat)),
     ((9 : Nat), AV.ptr (9 : Nat) (0 : Nat) (0 : Nat)),
     ((10 : Nat),
     AV.int IntKind.i64 (IntKind.i64.wrap (i + (1 : Int))))]
     [((8 : Nat),
     AV.box (74 : Nat)
     [AV.int IntKind.u32 x.p.ch, AV.int IntKind.i64 x.p.cmd,
     AV.int IntKind.i64 x.p.len, AV.ints false IntKind.u8 x.p.s,
     AV.int IntKind.i64 x.p.q]),
     ((9 : Nat),
     AV.box (74 : Nat)
     [AV.int IntKind.u32 x_1.p.ch, AV.int IntKind.i64 x_1.p.cmd,
     AV.int IntKind.i64 x_1.p.len,
     AV.ints false IntKind.u8 x_1.p.s,
     AV.int IntKind.i64 x_1.p.q]),
     ((25 : Nat),
     AV.box (83 : Nat)
     [AV.ints false IntKind.i64 l,
     AV.int IntKind.i64 (nextN l (nextN l n'))])]))))))))))
     (chk
     (decide
     ((0 : Int) < (3 : Int) ∧
     (3 : Int) ≤ (1000000 : Int) ∧ (0 : Int) ≤ nextN l n' ∧ nextN l n' ≤ @Nat.cast Int _ l.length))
     (br (nextR l (nextN l n') (3 : Int) == (2 : Int))
     (chk
     (decide
     ((0 : Int) < (9 : Int) ∧
     (9 : Int) ≤ (1000000 : Int) ∧
     (0 : Int) ≤ nextN l (nextN l n') ∧ nextN l (nextN l n') ≤ @Nat.cast Int _ l.length))
     (∀ (l_1 : List Int),
     RngL IntKind.u8 l_1 →
     l_1.length = clampN (59 : Int) →
     chk
     (decide (pd.length ≤ (100000 : Nat) ∧ (-1000000 : Int) ≤ pl ∧ pl ≤ (1000000 : Int)))
     (∀ (x : Acc),
     acceptL (Pt.mk ph pc pl pd pq) (Rec.mk ch (0 : Int) (0 : Int) pq' false l_1) = x →
     chk
     (decide
     (pd'.length ≤ (100000 : Nat) ∧
     (-1000000 : Int) ≤ pl' ∧ pl' ≤ (1000000 : Int)))
     (∀ (x_1 : Acc),
     acceptR (Pt.mk ph' pc' pl' pd' pq')
     (Rec.mk ch (0 : Int) (0 : Int) pq' false l_1) =
     x_1 →
     Pt.mk x.p.ch x.p.cmd x.p.len x.p.s x.p.q =
     Pt.mk x_1.p.ch x_1.p.cmd x_1.p.len x_1.p.s x_1.p.q ∧
     br (x.c != x_1.c) (k Out.ret (AS.mk [((6 : Nat), AV.bool false)] []))
     (br (!strEq x.b x_1.b)
     (k Out.ret (AS.mk [((6 : Nat), AV.bool false)] []))
     (br (!x.ok == x_1.ok)
     (k Out.ret (AS.mk [((6 : Nat), AV.bool false)] []))
     (br
     (!decide (nextN l (nextN l (nextN l n')) < @Nat.cast Int _ l.length))
     (br (decide (i ≥ @Nat.cast Int _ ps.length))
     (k (Out.exit (0 : Nat)) (AS.mk [] []))
     (k Out.normal
     (AS.mk
     [((0 : Nat), AV.int IntKind.u32 ch),
     ((2 : Nat), AV.rs false (0 : Nat) ps),
     ((7 : Nat), AV.ptr (25 : Nat) (0 : Nat) (0 : Nat)),
     ((8 : Nat), AV.ptr (8 : Nat) (0 : Nat) (0 : Nat)),
     ((9 : Nat), AV.ptr (9 : Nat) (0 : Nat) (0 : Nat)),
     ((10 : Nat),
     AV.int IntKind.i64
     (IntKind.i64.wrap (i + (1 : Int))))]
     [((8 : Nat),
     AV.box (74 : Nat)
     [AV.int IntKind.u32 x.p.ch,
     AV.int IntKind.i64 x.p.cmd,
     AV.int IntKind.i64 x.p.len,
     AV.ints false IntKind.u8 x.p.s,
     AV.int IntKind.i64 x.p.q]),
     ((9 : Nat),
     AV.box (74 : Nat)
     [AV.int IntKind.u32 x_1.p.ch,
     AV.int IntKind.i64 x_1.p.cmd,
     AV.int IntKind.i64 x_1.p.len,
     AV.ints false IntKind.u8 x_1.p.s,
     AV.int IntKind.i64 x_1.p.q]),
     ((25 : Nat),
     AV.box (83 : Nat)
     [AV.ints false IntKind.i64 l,
     AV.int IntKind.i64
     (nextN l (nextN l (nextN l n')))])])))
     (k Out.normal
     (AS.mk
     [((0 : Nat), AV.int IntKind.u32 ch),
     ((2 : Nat), AV.rs false (0 : Nat) ps),
     ((7 : Nat), AV.ptr (25 : Nat) (0 : Nat) (0 : Nat)),
     ((8 : Nat), AV.ptr (8 : Nat) (0 : Nat) (0 : Nat)),
     ((9 : Nat), AV.ptr (9 : Nat) (0 : Nat) (0 : Nat)),
     ((10 : Nat),
     AV.int IntKind.i64 (IntKind.i64.wrap (i + (1 : Int))))]
     [((8 : Nat),
     AV.box (74 : Nat)
     [AV.int IntKind.u32 x.p.ch,
     AV.int IntKind.i64 x.p.cmd,
     AV.int IntKind.i64 x.p.len,
     AV.ints false IntKind.u8 x.p.s,
     AV.int IntKind.i64 x.p.q]),
     ((9 : Nat),
     AV.box (74 : Nat)
     [AV.int IntKind.u32 x_1.p.ch,
     AV.int IntKind.i64 x_1.p.cmd,
     AV.int IntKind.i64 x_1.p.len,
     AV.ints false IntKind.u8 x_1.p.s,
     AV.int IntKind.i64 x_1.p.q]),
     ((25 : Nat),
     AV.box (83 : Nat)
     [AV.ints false IntKind.i64 l,
     AV.int IntKind.i64
     (nextN l (nextN l (nextN l n')))])])))))))))
     (chk (decide (pd.length ≤ (100000 : Nat) ∧ (-1000000 : Int) ≤ pl ∧ pl ≤ (1000000 : Int)))
     (∀ (x : Acc),
     acceptL (Pt.mk ph pc pl pd pq)
     (Rec.mk (ps.getD i.toNat default).a (ps.getD i.toNat default).b
     (ps.getD i.toNat default).c (ps.getD i.toNat default).d
     (ps.getD i.toNat default).f (ps.getD i.toNat default).s) =
     x →
     chk
     (decide
     (pd'.length ≤ (100000 : Nat) ∧ (-1000000 : Int) ≤ pl' ∧ pl' ≤ (1000000 : Int)))
     (∀ (x_1 : Acc),
     acceptR (Pt.mk ph' pc' pl' pd' pq')
     (Rec.mk (ps.getD i.toNat default).a (ps.getD i.toNat default).b
     (ps.getD i.toNat default).c (ps.getD i.toNat default).d
     (ps.getD i.toNat default).f (ps.getD i.toNat default).s) =
     x_1 →
     Pt.mk x.p.ch x.p.cmd x.p.len x.p.s x.p.q =
     Pt.mk x_1.p.ch x_1.p.cmd x_1.p.len x_1.p.s x_1.p.q ∧
     br (x.c != x_1.c) (k Out.ret (AS.mk [((6 : Nat), AV.bool false)] []))
     (br (!strEq x.b x_1.b) (k Out.ret (AS.mk [((6 : Nat), AV.bool false)] []))
     (br (!x.ok == x_1.ok) (k Out.ret (AS.mk [((6 : Nat), AV.bool false)] []))
     (br (!decide (nextN l (nextN l n') < @Nat.cast Int _ l.length))
     (br (decide (i ≥ @Nat.cast Int _ ps.length))
     (k (Out.exit (0 : Nat)) (AS.mk [] []))
     (k Out.normal
     (AS.mk
     [((0 : Nat), AV.int IntKind.u32 ch),
     ((2 : Nat), AV.rs false (0 : Nat) ps),
     ((7 : Nat), AV.ptr (25 : Nat) (0 : Nat) (0 : Nat)),
     ((8 : Nat), AV.ptr (8 : Nat) (0 : Nat) (0 : Nat)),
     ((9 : Nat), AV.ptr (9 : Nat) (0 : Nat) (0 : Nat)),
     ((10 : Nat),
     AV.int IntKind.i64 (IntKind.i64.wrap (i + (1 : Int))))]
     [((8 : Nat),
     AV.box (74 : Nat)
     [AV.int IntKind.u32 x.p.ch, AV.int IntKind.i64 x.p.cmd,
     AV.int IntKind.i64 x.p.len,
     AV.ints false IntKind.u8 x.p.s,
     AV.int IntKind.i64 x.p.q]),
     ((9 : Nat),
     AV.box (74 : Nat)
     [AV.int IntKind.u32 x_1.p.ch, AV.int IntKind.i64 x_1.p.cmd,
     AV.int IntKind.i64 x_1.p.len,
     AV.ints false IntKind.u8 x_1.p.s,
     AV.int IntKind.i64 x_1.p.q]),
     ((25 : Nat),
     AV.box (83 : Nat)
     [AV.ints false IntKind.i64 l,
     AV.int IntKind.i64 (nextN l (nextN l n'))])])))
     (k Out.normal
     (AS.mk
     [((0 : Nat), AV.int IntKind.u32 ch),
     ((2 : Nat), AV.rs false (0 : Nat) ps),
     ((7 : Nat), AV.ptr (25 : Nat) (0 : Nat) (0 : Nat)),
     ((8 : Nat), AV.ptr (8 : Nat) (0 : Nat) (0 : Nat)),
     ((9 : Nat), AV.ptr (9 : Nat) (0 : Nat) (0 : Nat)),
     ((10 : Nat),
     AV.int IntKind.i64 (IntKind.i64.wrap (i + (1 : Int))))]
     [((8 : Nat),
     AV.box (74 : Nat)
     [AV.int IntKind.u32 x.p.ch, AV.int IntKind.i64 x.p.cmd,
     AV.int IntKind.i64 x.p.len, AV.ints false IntKind.u8 x.p.s,
     AV.int IntKind.i64 x.p.q]),
     ((9 : Nat),
     AV.box (74 : Nat)
     [AV.int IntKind.u32 x_1.p.ch, AV.int IntKind.i64 x_1.p.cmd,
     AV.int IntKind.i64 x_1.p.len,
     AV.ints false IntKind.u8 x_1.p.s,
     AV.int IntKind.i64 x_1.p.q]),
     ((25 : Nat),
     AV.box (83 : Nat)
     [AV.ints false IntKind.i64 l,
     AV.int IntKind.i64 (nextN l (nextN l n'))])]))))))))))))))
     (chk
     (decide
     ((0 : Int) < (4 : Int) ∧ (4 : Int) ≤ (1000000 : Int) ∧ (0 : Int) ≤ n' ∧ n' ≤ @Nat.cast Int _ l.length))
     (br (decide (nextR l n' (4 : Int) > (0 : Int)))
     (chk
     (decide
     ((0 : Int) < (3 : Int) ∧
     (3 : Int) ≤ (1000000 : Int) ∧ (0 : Int) ≤ nextN l n' ∧ nextN l n' ≤ @Nat.cast Int _ l.length))
     (br (nextR l (nextN l n') (3 : Int) == (2 : Int))
     (chk
     (decide
     ((0 : Int) < (9 : Int) ∧
     (9 : Int) ≤ (1000000 : Int) ∧
     (0 : Int) ≤ nextN l (nextN l n') ∧ nextN l (nextN l n') ≤ @Nat.cast Int _ l.length))
     (∀ (l_1 : List Int),
     RngL IntKind.u8 l_1 →
     l_1.length = clampN (59 : Int) →
     chk (decide (pd.length ≤ (100000 : Nat) ∧ (-1000000 : Int) ≤ pl ∧ pl ≤ (1000000 : Int)))
     (∀ (x : Acc),
     acceptL (Pt.mk ph pc pl pd pq) (Rec.mk ch (0 : Int) (0 : Int) pq' false l_1) = x →
     chk
     (decide
     (pd'.length ≤ (100000 : Nat) ∧ (-1000000 : Int) ≤ pl' ∧ pl' ≤ (1000000 : Int)))
     (∀ (x_1 : Acc),
     acceptR (Pt.mk ph' pc' pl' pd' pq')
     (Rec.mk ch (0 : Int) (0 : Int) pq' false l_1) =
     x_1 →
     Pt.mk x.p.ch x.p.cmd x.p.len x.p.s x.p.q =
     Pt.mk x_1.p.ch x_1.p.cmd x_1.p.len x_1.p.s x_1.p.q ∧
     br (x.c != x_1.c) (k Out.ret (AS.mk [((6 : Nat), AV.bool false)] []))
     (br (!strEq x.b x_1.b) (k Out.ret (AS.mk [((6 : Nat), AV.bool false)] []))
     (br (!x.ok == x_1.ok)
     (k Out.ret (AS.mk [((6 : Nat), AV.bool false)] []))
     (br (!decide (nextN l (nextN l (nextN l n')) < @Nat.cast Int _ l.length))
     (br (decide (i ≥ @Nat.cast Int _ ps.length))
     (k (Out.exit (0 : Nat)) (AS.mk [] []))
     (k Out.normal
     (AS.mk
     [((0 : Nat), AV.int IntKind.u32 ch),
     ((2 : Nat), AV.rs false (0 : Nat) ps),
     ((7 : Nat), AV.ptr (25 : Nat) (0 : Nat) (0 : Nat)),
     ((8 : Nat), AV.ptr (8 : Nat) (0 : Nat) (0 : Nat)),
     ((9 : Nat), AV.ptr (9 : Nat) (0 : Nat) (0 : Nat)),
     ((10 : Nat),
     AV.int IntKind.i64 (IntKind.i64.wrap (i + (1 : Int))))]
     [((8 : Nat),
     AV.box (74 : Nat)
     [AV.int IntKind.u32 x.p.ch, AV.int IntKind.i64 x.p.cmd,
     AV.int IntKind.i64 x.p.len,
     AV.ints false IntKind.u8 x.p.s,
     AV.int IntKind.i64 x.p.q]),
     ((9 : Nat),
     AV.box (74 : Nat)
     [AV.int IntKind.u32 x_1.p.ch,
     AV.int IntKind.i64 x_1.p.cmd,
     AV.int IntKind.i64 x_1.p.len,
     AV.ints false IntKind.u8 x_1.p.s,
     AV.int IntKind.i64 x_1.p.q]),
     ((25 : Nat),
     AV.box (83 : Nat)
     [AV.ints false IntKind.i64 l,
     AV.int IntKind.i64
     (nextN l (nextN l (nextN l n')))])])))
     (k Out.normal
     (AS.mk
     [((0 : Nat), AV.int IntKind.u32 ch),
     ((2 : Nat), AV.rs false (0 : Nat) ps),
     ((7 : Nat), AV.ptr (25 : Nat) (0 : Nat) (0 : Nat)),
     ((8 : Nat), AV.ptr (8 : Nat) (0 : Nat) (0 : Nat)),
     ((9 : Nat), AV.ptr (9 : Nat) (0 : Nat) (0 : Nat)),
     ((10 : Nat),
     AV.int IntKind.i64 (IntKind.i64.wrap (i + (1 : Int))))]
     [((8 : Nat),
     AV.box (74 : Nat)
     [AV.int IntKind.u32 x.p.ch, AV.int IntKind.i64 x.p.cmd,
     AV.int IntKind.i64 x.p.len,
     AV.ints false IntKind.u8 x.p.s,
     AV.int IntKind.i64 x.p.q]),
     ((9 : Nat),
     AV.box (74 : Nat)
     [AV.int IntKind.u32 x_1.p.ch,
     AV.int IntKind.i64 x_1.p.cmd,
     AV.int IntKind.i64 x_1.p.len,
     AV.ints false IntKind.u8 x_1.p.s,
     AV.int IntKind.i64 x_1.p.q]),
     ((25 : Nat),
     AV.box (83 : Nat)
     [AV.ints false IntKind.i64 l,
     AV.int IntKind.i64
     (nextN l (nextN l (nextN l n')))])])))))))))
     (chk (decide (pd.length ≤ (100000 : Nat) ∧ (-1000000 : Int) ≤ pl ∧ pl ≤ (1000000 : Int)))
     (∀ (x : Acc),
     acceptL (Pt.mk ph pc pl pd pq) (Rec.mk ch r.b r.c r.d r.f r.s) = x →
     chk (decide (pd'.length ≤ (100000 : Nat) ∧ (-1000000 : Int) ≤ pl' ∧ pl' ≤ (1000000 : Int)))
     (∀ (x_1 : Acc),
     acceptR (Pt.mk ph' pc' pl' pd' pq') (Rec.mk ch r.b r.c r.d r.f r.s) = x_1 →
     Pt.mk x.p.ch x.p.cmd x.p.len x.p.s x.p.q =
     Pt.mk x_1.p.ch x_1.p.cmd x_1.p.len x_1.p.s x_1.p.q ∧
     br (x.c != x_1.c) (k Out.ret (AS.mk [((6 : Nat), AV.bool false)] []))
     (br (!strEq x.b x_1.b) (k Out.ret (AS.mk [((6 : Nat), AV.bool false)] []))
     (br (!x.ok == x_1.ok) (k Out.ret (AS.mk [((6 : Nat), AV.bool false)] []))
     (br (!decide (nextN l (nextN l n') < @Nat.cast Int _ l.length))
     (br (decide (i ≥ @Nat.cast Int _ ps.length))
     (k (Out.exit (0 : Nat)) (AS.mk [] []))
     (k Out.normal
     (AS.mk
     [((0 : Nat), AV.int IntKind.u32 ch),
     ((2 : Nat), AV.rs false (0 : Nat) ps),
     ((7 : Nat), AV.ptr (25 : Nat) (0 : Nat) (0 : Nat)),
     ((8 : Nat), AV.ptr (8 : Nat) (0 : Nat) (0 : Nat)),
     ((9 : Nat), AV.ptr (9 : Nat) (0 : Nat) (0 : Nat)),
     ((10 : Nat), AV.int IntKind.i64 (IntKind.i64.wrap (i + (1 : Int))))]
     [((8 : Nat),
     AV.box (74 : Nat)
     [AV.int IntKind.u32 x.p.ch, AV.int IntKind.i64 x.p.cmd,
     AV.int IntKind.i64 x.p.len, AV.ints false IntKind.u8 x.p.s,
     AV.int IntKind.i64 x.p.q]),
     ((9 : Nat),
     AV.box (74 : Nat)
     [AV.int IntKind.u32 x_1.p.ch, AV.int IntKind.i64 x_1.p.cmd,
     AV.int IntKind.i64 x_1.p.len,
     AV.ints false IntKind.u8 x_1.p.s,
     AV.int IntKind.i64 x_1.p.q]),
     ((25 : Nat),
     AV.box (83 : Nat)
     [AV.ints false IntKind.i64 l,
     AV.int IntKind.i64 (nextN l (nextN l n'))])])))
     (k Out.normal
     (AS.mk
     [((0 : Nat), AV.int IntKind.u32 ch),
     ((2 : Nat), AV.rs false (0 : Nat) ps),
     ((7 : Nat), AV.ptr (25 : Nat) (0 : Nat) (0 : Nat)),
     ((8 : Nat), AV.ptr (8 : Nat) (0 : Nat) (0 : Nat)),
     ((9 : Nat), AV.ptr (9 : Nat) (0 : Nat) (0 : Nat)),
     ((10 : Nat), AV.int IntKind.i64 (IntKind.i64.wrap (i + (1 : Int))))]
     [((8 : Nat),
     AV.box (74 : Nat)
     [AV.int IntKind.u32 x.p.ch, AV.int IntKind.i64 x.p.cmd,
     AV.int IntKind.i64 x.p.len, AV.ints false IntKind.u8 x.p.s,
     AV.int IntKind.i64 x.p.q]),
     ((9 : Nat),
     AV.box (74 : Nat)
     [AV.int IntKind.u32 x_1.p.ch, AV.int IntKind.i64 x_1.p.cmd,
     AV.int IntKind.i64 x_1.p.len, AV.ints false IntKind.u8 x_1.p.s,
     AV.int IntKind.i64 x_1.p.q]),
     ((25 : Nat),
     AV.box (83 : Nat)
     [AV.ints false IntKind.i64 l,
     AV.int IntKind.i64 (nextN l (nextN l n'))])]))))))))))
     (chk
     (decide
     ((0 : Int) < (3 : Int) ∧
     (3 : Int) ≤ (1000000 : Int) ∧ (0 : Int) ≤ nextN l n' ∧ nextN l n' ≤ @Nat.cast Int _ l.length))
     (br (nextR l (nextN l n') (3 : Int) == (2 : Int))
     (chk
     (decide
     ((0 : Int) < (9 : Int) ∧
     (9 : Int) ≤ (1000000 : Int) ∧
     (0 : Int) ≤ nextN l (nextN l n') ∧ nextN l (nextN l n') ≤ @Nat.cast Int _ l.length))
     (∀ (l_1 : List Int),
     RngL IntKind.u8 l_1 →
     l_1.length = clampN (59 : Int) →
     chk (decide (pd.length ≤ (100000 : Nat) ∧ (-1000000 : Int) ≤ pl ∧ pl ≤ (1000000 : Int)))
     (∀ (x : Acc),
     acceptL (Pt.mk ph pc pl pd pq) (Rec.mk ch (0 : Int) (0 : Int) pq' false l_1) = x →
     chk
     (decide
     (pd'.length ≤ (100000 : Nat) ∧ (-1000000 : Int) ≤ pl' ∧ pl' ≤ (1000000 : Int)))
     (∀ (x_1 : Acc),
     acceptR (Pt.mk ph' pc' pl' pd' pq')
     (Rec.mk ch (0 : Int) (0 : Int) pq' false l_1) =
     x_1 →
     Pt.mk x.p.ch x.p.cmd x.p.len x.p.s x.p.q =
     Pt.mk x_1.p.ch x_1.p.cmd x_1.p.len x_1.p.s x_1.p.q ∧
     br (x.c != x_1.c) (k Out.ret (AS.mk [((6 : Nat), AV.bool false)] []))
     (br (!strEq x.b x_1.b) (k Out.ret (AS.mk [((6 : Nat), AV.bool false)] []))
     (br (!x.ok == x_1.ok)
     (k Out.ret (AS.mk [((6 : Nat), AV.bool false)] []))
     (br (!decide (nextN l (nextN l (nextN l n')) < @Nat.cast Int _ l.length))
     (br (decide (i ≥ @Nat.cast Int _ ps.length))
     (k (Out.exit (0 : Nat)) (AS.mk [] []))
     (k Out.normal
     (AS.mk
     [((0 : Nat), AV.int IntKind.u32 ch),
     ((2 : Nat), AV.rs false (0 : Nat) ps),
     ((7 : Nat), AV.ptr (25 : Nat) (0 : Nat) (0 : Nat)),
     ((8 : Nat), AV.ptr (8 : Nat) (0 : Nat) (0 : Nat)),
     ((9 : Nat), AV.ptr (9 : Nat) (0 : Nat) (0 : Nat)),
     ((10 : Nat),
     AV.int IntKind.i64 (IntKind.i64.wrap (i + (1 : Int))))]
     [((8 : Nat),
     AV.box (74 : Nat)
     [AV.int IntKind.u32 x.p.ch, AV.int IntKind.i64 x.p.cmd,
     AV.int IntKind.i64 x.p.len,
     AV.ints false IntKind.u8 x.p.s,
     AV.int IntKind.i64 x.p.q]),
     ((9 : Nat),
     AV.box (74 : Nat)
     [AV.int IntKind.u32 x_1.p.ch,
     AV.int IntKind.i64 x_1.p.cmd,
     AV.int IntKind.i64 x_1.p.len,
     AV.ints false IntKind.u8 x_1.p.s,
     AV.int IntKind.i64 x_1.p.q]),
     ((25 : Nat),
     AV.box (83 : Nat)
     [AV.ints false IntKind.i64 l,
     AV.int IntKind.i64
     (nextN l (nextN l (nextN l n')))])])))
     (k Out.normal
     (AS.mk
     [((0 : Nat), AV.int IntKind.u32 ch),
     ((2 : Nat), AV.rs false (0 : Nat) ps),
     ((7 : Nat), AV.ptr (25 : Nat) (0 : Nat) (0 : Nat)),
     ((8 : Nat), AV.ptr (8 : Nat) (0 : Nat) (0 : Nat)),
     ((9 : Nat), AV.ptr (9 : Nat) (0 : Nat) (0 : Nat)),
     ((10 : Nat),
     AV.int IntKind.i64 (IntKind.i64.wrap (i + (1 : Int))))]
     [((8 : Nat),
     AV.box (74 : Nat)
     [AV.int IntKind.u32 x.p.ch, AV.int IntKind.i64 x.p.cmd,
     AV.int IntKind.i64 x.p.len,
     AV.ints false IntKind.u8 x.p.s,
     AV.int IntKind.i64 x.p.q]),
     ((9 : Nat),
     AV.box (74 : Nat)
     [AV.int IntKind.u32 x_1.p.ch,
     AV.int IntKind.i64 x_1.p.cmd,
     AV.int IntKind.i64 x_1.p.len,
     AV.ints false IntKind.u8 x_1.p.s,
     AV.int IntKind.i64 x_1.p.q]),
     ((25 : Nat),
     AV.box (83 : Nat)
     [AV.ints false IntKind.i64 l,
     AV.int IntKind.i64
     (nextN l (nextN l (nextN l n')))])])))))))))
     (chk (decide (pd.length ≤ (100000 : Nat) ∧ (-1000000 : Int) ≤ pl ∧ pl ≤ (1000000 : Int)))
     (∀ (x : Acc),
     acceptL (Pt.mk ph pc pl pd pq) (Rec.mk r.a r.b r.c r.d r.f r.s) = x →
     chk (decide (pd'.length ≤ (100000 : Nat) ∧ (-1000000 : Int) ≤ pl' ∧ pl' ≤ (1000000 : Int)))
     (∀ (x_1 : Acc),
     acceptR (Pt.mk ph' pc' pl' pd' pq') (Rec.mk r.a r.b r.c r.d r.f r.s) = x_1 →
     Pt.mk x.p.ch x.p.cmd x.p.len x.p.s x.p.q =
     Pt.mk x_1.p.ch x_1.p.cmd x_1.p.len x_1.p.s x_1.p.q ∧
     br (x.c != x_1.c) (k Out.ret (AS.mk [((6 : Nat), AV.bool false)] []))
     (br (!strEq x.b x_1.b) (k Out.ret (AS.mk [((6 : Nat), AV.bool false)] []))
     (br (!x.ok == x_1.ok) (k Out.ret (AS.mk [((6 : Nat), AV.bool false)] []))
     (br (!decide (nextN l (nextN l n') < @Nat.cast Int _ l.length))
     (br (decide (i ≥ @Nat.cast Int _ ps.length))
     (k (Out.exit (0 : Nat)) (AS.mk [] []))
     (k Out.normal
     (AS.mk
     [((0 : Nat), AV.int IntKind.u32 ch),
     ((2 : Nat), AV.rs false (0 : Nat) ps),
     ((7 : Nat), AV.ptr (25 : Nat) (0 : Nat) (0 : Nat)),
     ((8 : Nat), AV.ptr (8 : Nat) (0 : Nat) (0 : Nat)),
     ((9 : Nat), AV.ptr (9 : Nat) (0 : Nat) (0 : Nat)),
     ((10 : Nat), AV.int IntKind.i64 (IntKind.i64.wrap (i + (1 : Int))))]
     [((8 : Nat),
     AV.box (74 : Nat)
     [AV.int IntKind.u32 x.p.ch, AV.int IntKind.i64 x.p.cmd,
     AV.int IntKind.i64 x.p.len, AV.ints false IntKind.u8 x.p.s,
     AV.int IntKind.i64 x.p.q]),
     ((9 : Nat),
     AV.box (74 : Nat)
     [AV.int IntKind.u32 x_1.p.ch, AV.int IntKind.i64 x_1.p.cmd,
     AV.int IntKind.i64 x_1.p.len,
     AV.ints false IntKind.u8 x_1.p.s,
     AV.int IntKind.i64 x_1.p.q]),
     ((25 : Nat),
     AV.box (83 : Nat)
     [AV.ints false IntKind.i64 l,
     AV.int IntKind.i64 (nextN l (nextN l n'))])])))
     (k Out.normal
     (AS.mk
     [((0 : Nat), AV.int IntKind.u32 ch),
     ((2 : Nat), AV.rs false (0 : Nat) ps),
     ((7 : Nat), AV.ptr (25 : Nat) (0 : Nat) (0 : Nat)),
     ((8 : Nat), AV.ptr (8 : Nat) (0 : Nat) (0 : Nat)),
     ((9 : Nat), AV.ptr (9 : Nat) (0 : Nat) (0 : Nat)),
     ((10 : Nat), AV.int IntKind.i64 (IntKind.i64.wrap (i + (1 : Int))))]
     [((8 : Nat),
     AV.box (74 : Nat)
     [AV.int IntKind.u32 x.p.ch, AV.int IntKind.i64 x.p.cmd,
     AV.int IntKind.i64 x.p.len, AV.ints false IntKind.u8 x.p.s,
     AV.int IntKind.i64 x.p.q]),
     ((9 : Nat),
     AV.box (74 : Nat)
     [AV.int IntKind.u32 x_1.p.ch, AV.int IntKind.i64 x_1.p.cmd,
     AV.int IntKind.i64 x_1.p.len, AV.ints false IntKind.u8 x_1.p.s,
     AV.int IntKind.i64 x_1.p.q]),
     ((25 : Nat),
     AV.box (83 : Nat)
     [AV.ints false IntKind.i64 l,
     AV.int IntKind.i64 (nextN l (nextN l n'))])]))))))))))))))
     (k (Out.exit (0 : Nat)) (AS.mk [] []))) := by kernel_rfl

theorem i15_6 (k : Out → AS → Prop) (fuel : Nat) : ∀ (ch i n : Int) (l : List Int) (ps : List Rec) (ph pc pl pq : Int) (pd : List Int) (ph' pc' pl' pq' : Int) (pd' : List Int), (60 - i).toNat < fuel → (0 ≤ i ∧ i ≤ 60 ∧ 0 ≤ n ∧ n ≤ l.length) → ((PInv ⟨ph, pc, pl, pd, pq⟩ ∧ (⟨ph, pc, pl, pd, pq⟩ : Pt) = ⟨ph', pc', pl', pd', pq'⟩) ∧ k (.exit 0) ⟨[], []⟩ ∧ k .ret ⟨[(6, .bool true)], []⟩) → iterL (stepL c15_0 kp15_6 tr15_6 (loopAt Proofs.Try.f15 6)) k fuel ⟨[(0, .int .u32 ch), (2, .rs false 0 ps), (7, .ptr 25 0 0), (8, .ptr 8 0 0), (9, .ptr 9 0 0), (10, .int .i64 i)], [(8, .box 74 [.int .u32 ph, .int .i64 pc, .int .i64 pl, .ints false .u8 pd, .int .i64 pq]), (9, .box 74 [.int .u32 ph', .int .i64 pc', .int .i64 pl', .ints false .u8 pd', .int .i64 pq']), (25, .box 83 [.ints false .i64 l, .int .i64 n])]⟩ := by
  induction fuel with
  | zero => intro ch i n l ps ph pc pl pq pd ph' pc' pl' pq' pd' hm; omega
  | succ fuel ih =>
    intro ch i n l ps ph pc pl pq pd ph' pc' pl' pq' pd' hm hp hk
    simp only [iterL]
    rw [q15_6]
    dsimp only
    obtain ⟨p1, p2, p3, p4⟩ := hp
    obtain ⟨⟨hI, hE⟩, hk1, hk2⟩ := hk
    cases hE
    have i0 : -1 ≤ pl := hI.l0
    have i1 : pl ≤ 4096 := hI.l1
    have i2 : (pd.length : Int) ≤ 4096 := hI.ls
    have acc : ∀ (q : Rec) (x : Acc), acceptL ⟨ph, pc, pl, pd, pq⟩ q = x → ∀ (y : Acc), acceptR ⟨ph, pc, pl, pd, pq⟩ q = y → x = y ∧ PInv x.p := by
      intro q x hx y hy
      refine ⟨hx.symm.trans ((acc_eq _ q hI).trans hy), ?_⟩
      rw [← hx]
      exact acc_inv _ q hI
    refine br_dec (fun hc => chk_dec (by omega) (fun r n' hr hl hn' => ?_)) (fun hc => hk1)
    have a1 := nextN_rng hn'
    have a2 := nextN_rng a1
    have a3 := nextN_rng a2
    rw [wrap_i64 (n := i + 1) (by omega) (by omega)]
    refine br_dec (fun h1 => ?_) (fun h1 => ?_)
    · refine chk_inB (by omega) (by omega) (br_dec (fun _ => hk2) (fun _ => chk_dec (by omega) (br_dec (fun _ => ?_) (fun _ => ?_))))
      all_goals refine chk_dec (by omega) (br_eq (fun _ => chk_dec (by omega) (fun z hz hzl => ?_)) (fun _ => ?_))
      all_goals
        refine chk_dec (by omega) (fun x hx => chk_dec (by omega) (fun y hy => ?_))
        obtain ⟨rfl, hx'⟩ := acc _ x hx y hy
        refine ⟨rfl, ?_⟩
        rw [bne_self_eq_false, strEq_refl]
        simp only [beq_self_eq_true, Bool.not_true, br_false]
        refine br_not (br_dec (fun _ => ?_) (fun _ => br_dec (fun _ => hk1) (fun _ => ?_)))
        all_goals exact ih _ _ _ _ _ _ _ _ _ _ _ _ _ _ _ (by omega) ⟨by omega, by omega, by omega, by omega⟩ ⟨⟨hx', rfl⟩, hk1, hk2⟩
    · refine chk_dec (by omega) (br_dec (fun _ => ?_) (fun _ => ?_))
      all_goals refine chk_dec (by omega) (br_eq (fun _ => chk_dec (by omega) (fun z hz hzl => ?_)) (fun _ => ?_))
      all_goals
        refine chk_dec (by omega) (fun x hx => chk_dec (by omega) (fun y hy => ?_))
        obtain ⟨rfl, hx'⟩ := acc _ x hx y hy
        refine ⟨rfl, ?_⟩
        rw [bne_self_eq_false, strEq_refl]
        simp only [beq_self_eq_true, Bool.not_true, br_false]
        refine br_not (br_dec (fun _ => ?_) (fun _ => br_dec (fun _ => hk1) (fun _ => ?_)))
        all_goals exact ih _ _ _ _ _ _ _ _ _ _ _ _ _ _ _ (by omega) ⟨by omega, by omega, by omega, by omega⟩ ⟨⟨hx', rfl⟩, hk1, hk2⟩
theorem l15_6 : ∀ s k, L15_6 s k → Tri Proofs.Try.prog 113 (.loop (loopAt Proofs.Try.f15 6)) s k := by
  intro s k h
  unfold L15_6 at h
  split at h
  · obtain ⟨h1, h2⟩ := chk_iff.1 h
    exact iter_ok (c := c15_0) gamL_ok (l := u15) a15 rfl mixed_ok (by kernel_rfl) (ls := []) rfl (.inl rfl) trivial (kps := kp15_6) (tr := tr15_6) (_) (i15_6 k _ _ _ _ _ _ _ _ _ _ _ _ _ _ _ _ (Nat.lt_succ_self _) (of_decide_eq_true h1) h2)
  · exact h.elim
theorem p15_0 (ch : Int) (l : List Int) (ps : List Rec) (post : AV → Option AV → Prop) (hin : InRL [.int .u32 ch, .ints false .i64 l, .rs false 0 ps]) (hie : InRO none) (h : post (.bool true) none) : Ok (runF c15 pm15 Proofs.Try.f15 [.int .u32 ch, .ints false .i64 l, .rs false 0 ps] none (post)) := by
  refine ⟨?_⟩
  rw [t15_0]
  exact br_dec (fun _ => h) (fun _ => ⟨⟨await_inv ch, rfl⟩, h, h⟩)
theorem k15 : Keeps Proofs.Try.prog 15 S15 := by
  refine ⟨?_, Proofs.Try.f15, by kernel_rfl, by kernel_rfl, by kernel_rfl⟩
  intro args e post h
  unfold S15 at h
  split at h
  · refine Spec.inR fun hin hie => fun_ok' (c := c15) gamL_ok (l := u15) a15 rfl mixed_ok (fn := Proofs.Try.f15) (show Proofs.Try.prog.funcs[15]? = some Proofs.Try.f15 by kernel_rfl) (by kernel_rfl) (ls := [(6, L15_6)]) rfl (.inr (by kernel_rfl)) ⟨l15_6, trivial⟩ (pm := pm15) (by simp [c15]) (by rintro ⟨t, l, h⟩; cases h) ?_
    exact p15_0 _ _ _ _ hin hie h
  · exact h.elim
end Go.Proofs.Ytokeanadhihlfaa.V
