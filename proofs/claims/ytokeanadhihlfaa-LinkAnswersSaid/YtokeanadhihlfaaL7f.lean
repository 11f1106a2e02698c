import Derived.Test.YtokeanadhihlfaaPlans
import Derived.Test.YtokeanadhihlfaaMB
import Derived.Test.YtokeanadhihlfaaProg
import Derived.Test.YtokeanadhihlfaaS0
import Derived.Test.YtokeanadhihlfaaS1
import Derived.Test.YtokeanadhihlfaaS2
import Derived.Test.YtokeanadhihlfaaS3
import Derived.Test.YtokeanadhihlfaaS4
import Derived.Test.YtokeanadhihlfaaS5
import Derived.Test.YtokeanadhihlfaaB1
import Derived.Test.YtokeanadhihlfaaP7
import Derived.Test.YtokeanadhihlfaaL1
import Derived.Test.YtokeanadhihlfaaL2
import Derived.Test.YtokeanadhihlfaaL3
import Derived.Test.YtokeanadhihlfaaL4a
import Derived.Test.YtokeanadhihlfaaL4b
import Derived.Test.YtokeanadhihlfaaL4c
import Derived.Test.YtokeanadhihlfaaL5
import Derived.Test.YtokeanadhihlfaaPlansB
import Derived.KernelRfl
set_option linter.all false
set_option maxHeartbeats 1000000
namespace Go.Proofs.Ytokeanadhihlfaa.V
open Go
structure AnsI (b : List Int) (ps : List Rec) (i : Int) (x y : Pt) : Prop where
  e : splitE 3 b.length = 0
  p : ps = splitL 2 3 b
  q : y = awaitP 1
  s : x = if i = ps.length then awaitP 2 else prtK 2 3 b i.toNat
theorem prtK_ch (ch cmd : Int) (b : List Int) (i : Nat) : (prtK ch cmd b i).ch = ch := by cases i <;> rfl
theorem prtK_small (ch cmd : Int) (b : List Int) (i : Nat) (hb : b.length ≤ 4096) : (prtK ch cmd b i).s.length ≤ 100000 ∧ -1000000 ≤ (prtK ch cmd b i).len ∧ (prtK ch cmd b i).len ≤ 1000000 := by
  cases i with
  | zero => exact ⟨by show 0 ≤ 100000; omega, by show (-1000000 : Int) ≤ -1; omega, by show (-1 : Int) ≤ 1000000; omega⟩
  | succ i => exact ⟨by show (b.take (offs (i + 1))).length ≤ 100000; rw [List.length_take]; omega, by show (-1000000 : Int) ≤ b.length; omega, by show (b.length : Int) ≤ 1000000; omega⟩
theorem recv_one : recvL (kN 2) 0 ⟨2, 3, 1, 0, true, [1]⟩ = (⟨2, 2, 2, 3, 0, [], 0, 0⟩, ⟨[], true, [1], false⟩) := by kernel_rfl
def pm16 : Pm := ⟨[.s, .s, .i .i64], .no, [.s]⟩
def u16 : List (Nat × Tr) := [(17, S17), (18, S18), (22, S22), (26, S26), (27, S27), (30, S30), (38, S38), (42, S42), (46, S46), (47, S47), (48, S48), (50, S50)]
theorem a16 : AllKeep Proofs.Try.prog u16 := ⟨k17, k18, k22, k26, k27, k30, k38, k42, k46, k47, k48, k50, trivial⟩

def kp16_12 : List (Loc × Keep) := [(.t 10, .shp (.i .u8)), (.t 12, .shp (.r 0)), (.t 14, .ptr), (.t 15, .ptr), (.t 16, .ptr), (.t 17, .shp .s), (.c 15 3, .shp (.i .u8)), (.c 16 3, .shp (.i .u8))]
def tr16_12 : Trim := .some [15] [15] [6] []
def L16_12 : LTr
  | ⟨[(10, .ints false .u8 b), (12, .rs false 0 ps), (14, .ptr 59 0 0), (15, .ptr 15 0 0), (16, .ptr 16 0 0), (17, .int .i64 i)], [(15, .box 74 [.int .u32 ph, .int .i64 pc, .int .i64 pl, .ints false .u8 pd, .int .i64 pq]), (16, .box 74 [.int .u32 ph', .int .i64 pc', .int .i64 pl', .ints false .u8 pd', .int .i64 pq']), (59, .box 83 [.ints false .i64 l, .int .i64 n])]⟩, k => chk (decide (0 ≤ i ∧ i ≤ ps.length ∧ ps.length ≤ 100 ∧ 0 ≤ n ∧ n ≤ l.length)) (AnsI b ps i ⟨ph, pc, pl, pd, pq⟩ ⟨ph', pc', pl', pd', pq'⟩ ∧ k (.exit 0) ⟨[(15, .ptr 15 0 0)], [(15, .box 74 [.int .u32 2, .int .i64 0, .int .i64 (-1), .ints false .u8 [], .int .i64 0])]⟩)
  | _, _ => False
def c16_0 : Cfg := { n := 139, Γ := GamL, C := ofL u16, pm := pmL [(17, pm17), (18, pm18), (22, pm22), (26, pm26), (27, pm27), (30, pm30), (38, pm38), (42, pm42), (46, pm46), (47, pm47), (48, pm48), (50, pm50)], plan := planB16, L := lpL [], unroll := nmL [], keep := kpL [(12, kp16_12)] }
def c16 : Cfg := { n := 139, Γ := GamL, C := ofL u16, pm := pmL [(17, pm17), (18, pm18), (22, pm22), (26, pm26), (27, pm27), (30, pm30), (38, pm38), (42, pm42), (46, pm46), (47, pm47), (48, pm48), (50, pm50)], plan := planB16, L := lpL [(12, L16_12)], unroll := nmL [], keep := kpL [(12, kp16_12)] }
def S16 : Tr
  | [.int .i64 seed, .int .i64 size, .ints false .i64 l], none, post => post (.bool true) none
  | _, _, _ => False
theorem t16_0 (seed size : Int) (l : List Int) (post : AV → Option AV → Prop) : runF c16 pm16 Proofs.Try.f16 [.int .i64 seed, .int .i64 size, .ints false .i64 l] none post = (∀ (k' : Lk) (o' : Ou),
     recvL
     (Lk.mk (kN (2 : Int)).n (kN (2 : Int)).st (kN (2 : Int)).a (kN (2 : Int)).cmd (kN (2 : Int)).len
     (kN (2 : Int)).s (kN (2 : Int)).q (kN (2 : Int)).t)
     (0 : Int) (Rec.mk (2 : Int) (3 : Int) (1 : Int) (0 : Int) true [(1 : Int)]) =
     (k', o') →
     ∀ (r : Int),
     (0 : Int) ≤ r ∧ r ≤ (4097 : Int) →
     chk
     (decide
     ((0 : Int) ≤ IntKind.u64.wrap seed % (99 : Int) ∧
     IntKind.u64.wrap seed % (99 : Int) ≤ (1000 : Int) ∧
     (0 : Int) ≤ imin r (4096 : Int) ∧ imin r (4096 : Int) ≤ (4097 : Int)))
     (∀ (l_1 : List Int),
     RngL IntKind.u8 l_1 →
     l_1.length = (imin r (4096 : Int)).toNat →
     br (!o'.dl) (post (AV.bool false) none)
     (br ((answL (Lk.mk k'.n k'.st k'.a k'.cmd k'.len k'.s k'.q k'.t) l_1).snd.2 != (0 : Int))
     (post (AV.bool false) none)
     (br ((answL (Lk.mk k'.n k'.st k'.a k'.cmd k'.len k'.s k'.q k'.t) l_1).fst.st != (0 : Int))
     (post (AV.bool false) none)
     (chk
     (decide
     ((0 : Int) ≤ (0 : Int) ∧
     (0 : Int) ≤
     @Nat.cast Int _
     (answL (Lk.mk k'.n k'.st k'.a k'.cmd k'.len k'.s k'.q k'.t) l_1).snd.1.length ∧
     (answL (Lk.mk k'.n k'.st k'.a k'.cmd k'.len k'.s k'.q k'.t) l_1).snd.1.length ≤
     (100 : Nat) ∧
     (0 : Int) ≤ (0 : Int) ∧ (0 : Int) ≤ @Nat.cast Int _ l.length))
     (AnsI l_1 (answL (Lk.mk k'.n k'.st k'.a k'.cmd k'.len k'.s k'.q k'.t) l_1).snd.fst (0 : Int)
     (Pt.mk (awaitP (2 : Int)).ch (awaitP (2 : Int)).cmd (awaitP (2 : Int)).len
     (awaitP (2 : Int)).s (awaitP (2 : Int)).q)
     (Pt.mk (awaitP (1 : Int)).ch (awaitP (1 : Int)).cmd (awaitP (1 : Int)).len
     (awaitP (1 : Int)).s (awaitP (1 : Int)).q) ∧
     post (AV.bool true) none)))))) := by kernel_rfl
theorem q16_12 (i n : Int) (b l : List Int) (ps : List Rec) (ph pc pl pq : Int) (pd : List Int) (ph' pc' pl' pq' : Int) (pd' : List Int) (k : Out → AS → Prop) : stepL c16_0 kp16_12 tr16_12 (loopAt Proofs.Try.f16 12) ⟨[(10, .ints false .u8 b), (12, .rs false 0 ps), (14, .ptr 59 0 0), (15, .ptr 15 0 0), (16, .ptr 16 0 0), (17, .int .i64 i)], [(15, .box 74 [.int .u32 ph, .int .i64 pc, .int .i64 pl, .ints false .u8 pd, .int .i64 pq]), (16, .box 74 [.int .u32 ph', .int .i64 pc', .int .i64 pl', .ints false .u8 pd', .int .i64 pq']), (59, .box 83 [.ints false .i64 l, .int .i64 n])]⟩ k = (br (decide (i < @Nat.cast Int _ ps.length))
     (chk (decide ((0 : Int) < (2 : Int) ∧ (2 : Int) ≤ (1000000 : Int) ∧ (0 : Int) ≤ n ∧ n ≤ @Nat.cast Int _ l.length))
     (br (nextR l n (2 : Int) == (1 : Int))
     (chk
     (decide
     ((0 : Int) < (9 : Int) ∧
     (9 : Int) ≤ (1000000 : Int) ∧ (0 : Int) ≤ nextN l n ∧ nextN l n ≤ @Nat.cast Int _ l.length))
     (∀ (l_1 : List Int),
     RngL IntKind.u8 l_1 →
     l_1.length = clampN (59 : Int) →
     chk (decide (pd.length ≤ (100000 : Nat) ∧ (-1000000 : Int) ≤ pl ∧ pl ≤ (1000000 : Int)))
     (∀ (x : Acc),
     acceptL (Pt.mk ph pc pl pd pq)
     (Rec.mk (1 : Int) (0 : Int) (0 : Int) (nextR l (nextN l n) (9 : Int)) false l_1) =
     x →
     br x.ok (k Out.ret (AS.mk [((6 : Nat), AV.bool false)] []))
     (chk (inB i ps.length)
     (chk
     (decide
     (x.p.s.length ≤ (100000 : Nat) ∧ (-1000000 : Int) ≤ x.p.len ∧ x.p.len ≤ (1000000 : Int)))
     (∀ (x_1 : Acc),
     acceptL (Pt.mk x.p.ch x.p.cmd x.p.len x.p.s x.p.q)
     (Rec.mk (ps.getD i.toNat default).a (ps.getD i.toNat default).b
     (ps.getD i.toNat default).c (ps.getD i.toNat default).d (ps.getD i.toNat default).f
     (ps.getD i.toNat default).s) =
     x_1 →
     br (!x_1.ok == (i == IntKind.i64.wrap (@Nat.cast Int _ ps.length - (1 : Int))))
     (k Out.ret (AS.mk [((6 : Nat), AV.bool false)] []))
     (br x_1.ok
     (br (x_1.c != (3 : Int)) (k Out.ret (AS.mk [((6 : Nat), AV.bool false)] []))
     (br (!strEq x_1.b b) (k Out.ret (AS.mk [((6 : Nat), AV.bool false)] []))
     (chk (inB i ps.length)
     (chk
     (decide
     (pd'.length ≤ (100000 : Nat) ∧
     (-1000000 : Int) ≤ pl' ∧ pl' ≤ (1000000 : Int)))
     (∀ (x : Acc),
     acceptL (Pt.mk ph' pc' pl' pd' pq')
     (Rec.mk (ps.getD i.toNat default).a (ps.getD i.toNat default).b
     (ps.getD i.toNat default).c (ps.getD i.toNat default).d
     (ps.getD i.toNat default).f (ps.getD i.toNat default).s) =
     x →
     br x.ok (k Out.ret (AS.mk [((6 : Nat), AV.bool false)] []))
     (br (decide (x.p.len ≥ (0 : Int)))
     (k Out.ret (AS.mk [((6 : Nat), AV.bool false)] []))
     (k Out.normal
     (AS.mk
     [((10 : Nat), AV.ints false IntKind.u8 b),
     ((12 : Nat), AV.rs false (0 : Nat) ps),
     ((14 : Nat), AV.ptr (59 : Nat) (0 : Nat) (0 : Nat)),
     ((15 : Nat), AV.ptr (15 : Nat) (0 : Nat) (0 : Nat)),
     ((16 : Nat), AV.ptr (16 : Nat) (0 : Nat) (0 : Nat)),
     ((17 : Nat),
     AV.int IntKind.i64 (IntKind.i64.wrap (i + (1 : Int))))]
     [((15 : Nat),
     AV.box (74 : Nat)
     [AV.int IntKind.u32 x_1.p.ch, AV.int IntKind.i64 x_1.p.cmd,
     AV.int IntKind.i64 x_1.p.len,
     AV.ints false IntKind.u8 x_1.p.s,
     AV.int IntKind.i64 x_1.p.q]),
     ((16 : Nat),
     AV.box (74 : Nat)
     [AV.int IntKind.u32 x.p.ch, AV.int IntKind.i64 x.p.cmd,
     AV.int IntKind.i64 x.p.len,
     AV.ints false IntKind.u8 x.p.s,
     AV.int IntKind.i64 x.p.q]),
     ((59 : Nat),
     AV.box (83 : Nat)
     [AV.ints false IntKind.i64 l,
     AV.int IntKind.i64 (nextN l (nextN l n))])]))))))))
     (chk (inB i ps.length)
     (chk
     (decide
     (pd'.length ≤ (100000 : Nat) ∧ (-1000000 : Int) ≤ pl' ∧ pl' ≤ (1000000 : Int)))
     (∀ (x : Acc),
     acceptL (Pt.mk ph' pc' pl' pd' pq')
     (Rec.mk (ps.getD i.toNat default).a (ps.getD i.toNat default).b
     (ps.getD i.toNat default).c (ps.getD i.toNat default).d
     (ps.getD i.toNat default).f (ps.getD i.toNat default).s) =
     x →
     br x.ok (k Out.ret (AS.mk [((6 : Nat), AV.bool false)] []))
     (br (decide (x.p.len ≥ (0 : Int)))
     (k Out.ret (AS.mk [((6 : Nat), AV.bool false)] []))
     (k Out.normal
     (AS.mk
     [((10 : Nat), AV.ints false IntKind.u8 b),
     ((12 : Nat), AV.rs false (0 : Nat) ps),
     ((14 : Nat), AV.ptr (59 : Nat) (0 : Nat) (0 : Nat)),
     ((15 : Nat), AV.ptr (15 : Nat) (0 : Nat) (0 : Nat)),
     ((16 : Nat), AV.ptr (16 : Nat) (0 : Nat) (0 : Nat)),
     ((17 : Nat), AV.int IntKind.i64 (IntKind.i64.wrap (i + (1 : Int))))]
     [((15 : Nat),
     AV.box (74 : Nat)
     [AV.int IntKind.u32 x_1.p.ch, AV.int IntKind.i64 x_1.p.cmd,
     AV.int IntKind.i64 x_1.p.len,
     AV.ints false IntKind.u8 x_1.p.s,
     AV.int IntKind.i64 x_1.p.q]),
     ((16 : Nat),
     AV.box (74 : Nat)
     [AV.int IntKind.u32 x.p.ch, AV.int IntKind.i64 x.p.cmd,
     AV.int IntKind.i64 x.p.len, AV.ints false IntKind.u8 x.p.s,
     AV.int IntKind.i64 x.p.q]),
     ((59 : Nat),
     AV.box (83 : Nat)
     [AV.ints false IntKind.i64 l,
     AV.int IntKind.i64 (nextN l (nextN l n))])])))))))))))))
     (chk (inB i ps.length)
     (chk (decide (pd.length ≤ (100000 : Nat) ∧ (-1000000 : Int) ≤ pl ∧ pl ≤ (1000000 : Int)))
     (∀ (x : Acc),
     acceptL (Pt.mk ph pc pl pd pq)
     (Rec.mk (ps.getD i.toNat default).a (ps.getD i.toNat default).b (ps.getD i.toNat default).c
     (ps.getD i.toNat default).d (ps.getD i.toNat default).f (ps.getD i.toNat default).s) =
     x →
     br (!x.ok == (i == IntKind.i64.wrap (@Nat.cast Int _ ps.length - (1 : Int))))
     (k Out.ret (AS.mk [((6 : Nat), AV.bool false)] []))
     (br x.ok
     (br (x.c != (3 : Int)) (k Out.ret (AS.mk [((6 : Nat), AV.bool false)] []))
     (br (!strEq x.b b) (k Out.ret (AS.mk [((6 : Nat), AV.bool false)] []))
     (chk (inB i ps.length)
     (chk (decide (pd'.length ≤ (100000 : Nat) ∧ (-1000000 : Int) ≤ pl' ∧ pl' ≤ (1000000 : Int)))
     (∀ (x_1 : Acc),
     acceptL (Pt.mk ph' pc' pl' pd' pq')
     (Rec.mk (ps.getD i.toNat default).a (ps.getD i.toNat default).b
     (ps.getD i.toNat default).c (ps.getD i.toNat default).d (ps.getD i.toNat default).f
     (ps.getD i.toNat default).s) =
     x_1 →
     br x_1.ok (k Out.ret (AS.mk [((6 : Nat), AV.bool false)] []))
     (br (decide (x_1.p.len ≥ (0 : Int))) (k Out.ret (AS.mk [((6 : Nat), AV.bool false)] []))
     (k Out.normal
     (AS.mk
     [((10 : Nat), AV.ints false IntKind.u8 b), ((12 : Nat), AV.rs false (0 : Nat) ps),
     ((14 : Nat), AV.ptr (59 : Nat) (0 : Nat) (0 : Nat)),
     ((15 : Nat), AV.ptr (15 : Nat) (0 : Nat) (0 : Nat)),
     ((16 : Nat), AV.ptr (16 : Nat) (0 : Nat) (0 : Nat)),
     ((17 : Nat), AV.int IntKind.i64 (IntKind.i64.wrap (i + (1 : Int))))]
     [((15 : Nat),
     AV.box (74 : Nat)
     [AV.int IntKind.u32 x.p.ch, AV.int IntKind.i64 x.p.cmd,
     AV.int IntKind.i64 x.p.len, AV.ints false IntKind.u8 x.p.s,
     AV.int IntKind.i64 x.p.q]),
     ((16 : Nat),
     AV.box (74 : Nat)
     [AV.int IntKind.u32 x_1.p.ch, AV.int IntKind.i64 x_1.p.cmd,
     AV.int IntKind.i64 x_1.p.len, AV.ints false IntKind.u8 x_1.p.s,
     AV.int IntKind.i64 x_1.p.q]),
     ((59 : Nat),
     AV.box (83 : Nat)
     [AV.ints false IntKind.i64 l, AV.int IntKind.i64 (nextN l n)])]))))))))
     (chk (inB i ps.length)
     (chk (decide (pd'.length ≤ (100000 : Nat) ∧ (-1000000 : Int) ≤ pl' ∧ pl' ≤ (1000000 : Int)))
     (∀ (x_1 : Acc),
     acceptL (Pt.mk ph' pc' pl' pd' pq')
     (Rec.mk (ps.getD i.toNat default).a (ps.getD i.toNat default).b
     (ps.getD i.toNat default).c (ps.getD i.toNat default).d (ps.getD i.toNat default).f
     (ps.getD i.toNat default).s) =
     x_1 →
     br x_1.ok (k Out.ret (AS.mk [((6 : Nat), AV.bool false)] []))
     (br (decide (x_1.p.len ≥ (0 : Int))) (k Out.ret (AS.mk [((6 : Nat), AV.bool false)] []))
     (k Out.normal
     (AS.mk
     [((10 : Nat), AV.ints false IntKind.u8 b), ((12 : Nat), AV.rs false (0 : Nat) ps),
     ((14 : Nat), AV.ptr (59 : Nat) (0 : Nat) (0 : Nat)),
     ((15 : Nat), AV.ptr (15 : Nat) (0 : Nat) (0 : Nat)),
     ((16 : Nat), AV.ptr (16 : Nat) (0 : Nat) (0 : Nat)),
     ((17 : Nat), AV.int IntKind.i64 (IntKind.i64.wrap (i + (1 : Int))))]
     [((15 : Nat),
     AV.box (74 : Nat)
     [AV.int IntKind.u32 x.p.ch, AV.int IntKind.i64 x.p.cmd,
     AV.int IntKind.i64 x.p.len, AV.ints false IntKind.u8 x.p.s,
     AV.int IntKind.i64 x.p.q]),
     ((16 : Nat),
     AV.box (74 : Nat)
     [AV.int IntKind.u32 x_1.p.ch, AV.int IntKind.i64 x_1.p.cmd,
     AV.int IntKind.i64 x_1.p.len, AV.ints false IntKind.u8 x_1.p.s,
     AV.int IntKind.i64 x_1.p.q]),
     ((59 : Nat),
     AV.box (83 : Nat)
     [AV.ints false IntKind.i64 l, AV.int IntKind.i64 (nextN l n)])]))))))))))))
     (k (Out.exit (0 : Nat))
     (AS.mk [((15 : Nat), AV.ptr (15 : Nat) (0 : Nat) (0 : Nat))]
     [((15 : Nat),
     AV.box (74 : Nat)
     [AV.int IntKind.u32 ph, AV.int IntKind.i64 pc, AV.int IntKind.i64 pl, AV.ints false IntKind.u8 pd,
     AV.int IntKind.i64 pq])]))) := by kernel_rfl

theorem i16_12 (k : Out → AS → Prop) (fuel : Nat) : ∀ (i n : Int) (b l : List Int) (ps : List Rec) (ph pc pl pq : Int) (pd : List Int) (ph' pc' pl' pq' : Int) (pd' : List Int), (ps.length - i).toNat < fuel → (0 ≤ i ∧ i ≤ ps.length ∧ ps.length ≤ 100 ∧ 0 ≤ n ∧ n ≤ l.length) → (AnsI b ps i ⟨ph, pc, pl, pd, pq⟩ ⟨ph', pc', pl', pd', pq'⟩ ∧ k (.exit 0) ⟨[(15, .ptr 15 0 0)], [(15, .box 74 [.int .u32 2, .int .i64 0, .int .i64 (-1), .ints false .u8 [], .int .i64 0])]⟩) → iterL (stepL c16_0 kp16_12 tr16_12 (loopAt Proofs.Try.f16 12)) k fuel ⟨[(10, .ints false .u8 b), (12, .rs false 0 ps), (14, .ptr 59 0 0), (15, .ptr 15 0 0), (16, .ptr 16 0 0), (17, .int .i64 i)], [(15, .box 74 [.int .u32 ph, .int .i64 pc, .int .i64 pl, .ints false .u8 pd, .int .i64 pq]), (16, .box 74 [.int .u32 ph', .int .i64 pc', .int .i64 pl', .ints false .u8 pd', .int .i64 pq']), (59, .box 83 [.ints false .i64 l, .int .i64 n])]⟩ := by
  induction fuel with
  | zero => intro i n b l ps ph pc pl pq pd ph' pc' pl' pq' pd' hm; omega
  | succ fuel ih =>
    intro i n b l ps ph pc pl pq pd ph' pc' pl' pq' pd' hm hp hk
    simp only [iterL]
    rw [q16_12]
    dsimp only
    obtain ⟨p1, p2, p3, p4, p5⟩ := hp
    obtain ⟨⟨he, hps, hq, hs⟩, hk⟩ := hk
    subst hps
    refine br_dec (fun hc => ?_) (fun hc => ?_)
    · have hb4 : b.length ≤ 4096 := by
        unfold splitE at he
        (repeat' split at he) <;> omega
      have hi : i.toNat < (splitL 2 3 b).length := by omega
      have hg := split_get' 2 3 b he i.toNat hi
      have hacc := acc_prt 2 3 b he i.toNat hi
      rw [if_neg (by omega)] at hs
      have hsm := prtK_small 2 3 b i.toNat hb4
      have hph : ph = 2 := by
        have := congrArg Pt.ch hs
        rw [prtK_ch] at this
        exact this
      rw [← hs] at hsm hacc
      dsimp only at hsm
      have hqm : pd'.length ≤ 100000 ∧ -1000000 ≤ pl' ∧ pl' ≤ 1000000 := by
        have h1 := congrArg Pt.s hq
        have h2 := congrArg Pt.len hq
        dsimp only [awaitP] at h1 h2
        rw [h1, h2]
        simp
      have a0 : 0 ≤ n ∧ n ≤ l.length := ⟨p4, p5⟩
      have a1 := nextN_rng a0
      have a2 := nextN_rng a1
      have hxN : ∀ x, acceptL ⟨ph, pc, pl, pd, pq⟩ ((splitL 2 3 b).getD i.toNat default) = x → x = prtN 2 3 b i.toNat := fun x hx => by rw [hg, hacc] at hx; exact hx.symm
      have hxQ : ∀ x, acceptL ⟨ph', pc', pl', pd', pq'⟩ ((splitL 2 3 b).getD i.toNat default) = x → x = accN (awaitP 1) := fun x hx => by
        rw [hq, hg, acc_other _ _ (by rw [spP_a]; show (2 : Int) ≠ 1; decide)] at hx
        exact hx.symm
      have hxO : ∀ d z x, acceptL ⟨ph, pc, pl, pd, pq⟩ ⟨1, 0, 0, d, false, z⟩ = x → x = accN ⟨ph, pc, pl, pd, pq⟩ := fun d z x hx => by
        rw [acc_other _ _ (by show (1 : Int) ≠ ph; rw [hph]; decide)] at hx
        exact hx.symm
      rw [wrap_i64 (n := ((splitL 2 3 b).length : Int) - 1) (by omega) (by omega), wrap_i64 (n := i + 1) (by omega) (by omega)]
      refine chk_dec (by omega) (br_eq (fun _ => chk_dec (by omega) (fun z hz hzl => chk_dec hsm (fun x0 hx0 => ?_))) (fun _ => ?_))
      · have hx0' := hxO _ _ x0 hx0
        subst hx0'
        simp only [accN, br_false]
        refine chk_inB (by omega) (by omega) (chk_dec hsm (fun x hx => ?_))
        have hx' := hxN x hx
        rw [prtN] at hx'
        by_cases hl : i.toNat + 1 = (splitL 2 3 b).length
        · rw [if_pos hl] at hx'
          subst hx'
          rw [show (i == ((splitL 2 3 b).length : Int) - 1) = true by simp; omega]
          simp only [beq_self_eq_true, Bool.not_true, br_false, br_true, bne_self_eq_false, strEq_refl]
          refine chk_inB (by omega) (by omega) (chk_dec hqm (fun y hy => ?_))
          have hy' := hxQ y hy
          subst hy'
          simp only [accN, br_false]
          refine br_dec (fun h0 => absurd h0 (by show ¬ (-1 : Int) ≥ 0; decide)) (fun _ => ?_)
          exact ih _ _ _ _ _ _ _ _ _ _ _ _ _ _ _ (by omega) ⟨by omega, by omega, by omega, by omega, by omega⟩ ⟨⟨he, rfl, rfl, by rw [if_pos (by omega)]⟩, hk⟩
        · rw [if_neg hl] at hx'
          subst hx'
          rw [show (i == ((splitL 2 3 b).length : Int) - 1) = false by simp; omega]
          simp only [accN, beq_self_eq_true, Bool.not_true, br_false]
          refine chk_inB (by omega) (by omega) (chk_dec hqm (fun y hy => ?_))
          have hy' := hxQ y hy
          subst hy'
          simp only [accN, br_false]
          refine br_dec (fun h0 => absurd h0 (by show ¬ (-1 : Int) ≥ 0; decide)) (fun _ => ?_)
          exact ih _ _ _ _ _ _ _ _ _ _ _ _ _ _ _ (by omega) ⟨by omega, by omega, by omega, by omega, by omega⟩ ⟨⟨he, rfl, rfl, by rw [if_neg (by omega), show (i + 1).toNat = i.toNat + 1 by omega]⟩, hk⟩
      · refine chk_inB (by omega) (by omega) (chk_dec hsm (fun x hx => ?_))
        have hx' := hxN x hx
        rw [prtN] at hx'
        by_cases hl : i.toNat + 1 = (splitL 2 3 b).length
        · rw [if_pos hl] at hx'
          subst hx'
          rw [show (i == ((splitL 2 3 b).length : Int) - 1) = true by simp; omega]
          simp only [beq_self_eq_true, Bool.not_true, br_false, br_true, bne_self_eq_false, strEq_refl]
          refine chk_inB (by omega) (by omega) (chk_dec hqm (fun y hy => ?_))
          have hy' := hxQ y hy
          subst hy'
          simp only [accN, br_false]
          refine br_dec (fun h0 => absurd h0 (by show ¬ (-1 : Int) ≥ 0; decide)) (fun _ => ?_)
          exact ih _ _ _ _ _ _ _ _ _ _ _ _ _ _ _ (by omega) ⟨by omega, by omega, by omega, by omega, by omega⟩ ⟨⟨he, rfl, rfl, by rw [if_pos (by omega)]⟩, hk⟩
        · rw [if_neg hl] at hx'
          subst hx'
          rw [show (i == ((splitL 2 3 b).length : Int) - 1) = false by simp; omega]
          simp only [accN, beq_self_eq_true, Bool.not_true, br_false]
          refine chk_inB (by omega) (by omega) (chk_dec hqm (fun y hy => ?_))
          have hy' := hxQ y hy
          subst hy'
          simp only [accN, br_false]
          refine br_dec (fun h0 => absurd h0 (by show ¬ (-1 : Int) ≥ 0; decide)) (fun _ => ?_)
          exact ih _ _ _ _ _ _ _ _ _ _ _ _ _ _ _ (by omega) ⟨by omega, by omega, by omega, by omega, by omega⟩ ⟨⟨he, rfl, rfl, by rw [if_neg (by omega), show (i + 1).toNat = i.toNat + 1 by omega]⟩, hk⟩
    · rw [if_pos (by omega)] at hs
      unfold awaitP at hs
      cases hs
      exact hk
theorem l16_12 : ∀ s k, L16_12 s k → Tri Proofs.Try.prog 139 (.loop (loopAt Proofs.Try.f16 12)) s k := by
  intro s k h
  unfold L16_12 at h
  split at h
  · obtain ⟨h1, h2⟩ := chk_iff.1 h
    exact iter_ok (c := c16_0) gamL_ok (l := u16) a16 rfl mixed_ok (by kernel_rfl) (ls := []) rfl (.inl rfl) trivial (kps := kp16_12) (tr := tr16_12) (_) (i16_12 k _ _ _ _ _ _ _ _ _ _ _ _ _ _ _ _ (Nat.lt_succ_self _) (of_decide_eq_true h1) h2)
  · exact h.elim
theorem p16_0 (seed size : Int) (l : List Int) (post : AV → Option AV → Prop) (hin : InRL [.int .i64 seed, .int .i64 size, .ints false .i64 l]) (hie : InRO none) (h : post (.bool true) none) : Ok (runF c16 pm16 Proofs.Try.f16 [.int .i64 seed, .int .i64 size, .ints false .i64 l] none (post)) := by
  refine ⟨?_⟩
  rw [t16_0]
  intro k' o' e
  have e' := recv_one.symm.trans e
  cases e'
  intro r hr
  have hm := imin_rng r 4096 (by omega) (by omega)
  have u1 := Int.emod_nonneg (IntKind.u64.wrap seed) (show (99 : Int) ≠ 0 by omega)
  have u2 := Int.emod_lt_of_pos (IntKind.u64.wrap seed) (show (0 : Int) < 99 by omega)
  refine chk_dec (by omega) (fun b hb hl => ?_)
  have he : splitE 3 b.length = 0 := by rw [splitE, if_neg (by omega), if_neg (by omega)]
  have hs := splitL_short 2 3 b
  have hn := split_len 2 3 b he
  have hcd := count_div (c := b.length) (by omega) (by omega)
  have ea : answL ⟨2, 2, 2, 3, 0, [], 0, 0⟩ b = (kN 2, splitL 2 3 b, 0) := by
    rw [answL, if_neg (by show ¬ (2 : Int) ≠ 2; decide), if_neg (fun h => h he)]
    rfl
  rw [ea]
  simp only [Bool.not_true, br_false]
  refine br_ne (fun h0 => absurd rfl h0) (fun _ => br_ne (fun h0 => absurd rfl h0) (fun _ => chk_dec (by omega) ⟨⟨he, rfl, rfl, ?_⟩, h⟩))
  rw [if_neg (by show ¬ (0 : Int) = ((splitL 2 3 b).length : Int); omega)]
  rfl
theorem k16 : Keeps Proofs.Try.prog 16 S16 := by
  refine ⟨?_, Proofs.Try.f16, by kernel_rfl, by kernel_rfl, by kernel_rfl⟩
  intro args e post h
  unfold S16 at h
  split at h
  · refine Spec.inR fun hin hie => fun_ok' (c := c16) gamL_ok (l := u16) a16 rfl mixed_ok (fn := Proofs.Try.f16) (show Proofs.Try.prog.funcs[16]? = some Proofs.Try.f16 by kernel_rfl) (by kernel_rfl) (ls := [(12, L16_12)]) rfl (.inr (by kernel_rfl)) ⟨l16_12, trivial⟩ (pm := pm16) (by simp [c16]) (by rintro ⟨t, l, h⟩; cases h) ?_
    exact p16_0 _ _ _ _ hin hie h
  · exact h.elim
end Go.Proofs.Ytokeanadhihlfaa.V
