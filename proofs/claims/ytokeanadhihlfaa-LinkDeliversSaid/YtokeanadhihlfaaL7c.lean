import Derived.Test.YtokeanadhihlfaaPlans
import Derived.Test.YtokeanadhihlfaaMB
import Derived.Test.YtokeanadhihlfaaProg
import Derived.Test.YtokeanadhihlfaaS0
import Derived.Test.YtokeanadhihlfaaS1
import Derived.Test.YtokeanadhihlfaaS2
import Derived.Test.YtokeanadhihlfaaS3
import Derived.Test.YtokeanadhihlfaaS4
import Derived.Test.YtokeanadhihlfaaS5
import Derived.Test.YtokeanadhihlfaaB1
import Derived.Test.YtokeanadhihlfaaP7
import Derived.Test.YtokeanadhihlfaaL1
import Derived.Test.YtokeanadhihlfaaL2
import Derived.Test.YtokeanadhihlfaaL3
import Derived.Test.YtokeanadhihlfaaL4a
import Derived.Test.YtokeanadhihlfaaL4b
import Derived.Test.YtokeanadhihlfaaL4c
import Derived.Test.YtokeanadhihlfaaL5
import Derived.Test.YtokeanadhihlfaaPlansB
import Derived.KernelRfl
set_option linter.all false
set_option maxHeartbeats 1000000
namespace Go.Proofs.Ytokeanadhihlfaa.V
open Go
structure DlvI (b : List Int) (ps : List Rec) (i now : Int) (k : Lk) : Prop where
  e : splitE 3 b.length = 0
  p : ps = splitL 1 3 b
  s : i < ps.length → DInv b i.toNat now k
  z : i = ps.length → ∃ t, k = dlvB t
theorem dinv_small {b : List Int} {i : Nat} {now : Int} {k : Lk} (h : DInv b i now k) (hb : b.length ≤ 4096) : k.s.length ≤ 100000 ∧ -1000000 ≤ k.len ∧ k.len ≤ 1000000 := by
  cases h with
  | first _ => exact ⟨by show 0 ≤ 100000; omega, by show (-1000000 : Int) ≤ 0; omega, by show (0 : Int) ≤ 1000000; omega⟩
  | next t _ _ _ => exact ⟨by show (b.take (offs i)).length ≤ 100000; rw [List.length_take]; omega, by show (-1000000 : Int) ≤ b.length; omega, by show (b.length : Int) ≤ 1000000; omega⟩
theorem busy_eq : refuseO o0 2 32 = ⟨[⟨2, 63, 1, 0, true, [32]⟩], false, [], false⟩ := rfl
def pm12 : Pm := ⟨[.s, .s, .i .i64], .no, [.s]⟩
def u12 : List (Nat × Tr) := [(17, S17), (18, S18), (22, S22), (24, S24), (26, S26), (27, S27), (30, S30), (42, S42), (46, S46), (47, S47)]
theorem a12 : AllKeep Proofs.Try.prog u12 := ⟨k17, k18, k22, k24, k26, k27, k30, k42, k46, k47, trivial⟩

def kp12_9 : List (Loc × Keep) := [(.t 7, .ptr), (.t 9, .shp (.i .u8)), (.t 10, .shp (.r 0)), (.t 12, .ptr), (.t 13, .shp .s), (.t 14, .shp .s), (.c 7 5, .shp (.i .u8))]
def tr12_9 : Trim := .some [7] [7] [6] []
def L12_9 : LTr
  | ⟨[(7, .ptr 7 0 0), (9, .ints false .u8 b), (10, .rs false 0 ps), (12, .ptr 36 0 0), (13, .int .i64 now), (14, .int .i64 i)], [(7, .box 57 [.int .i64 kn, .int .i64 kst, .int .u32 ka, .int .i64 kc, .int .i64 kl, .ints false .u8 ks, .int .i64 kq, .int .i64 kt]), (36, .box 83 [.ints false .i64 l, .int .i64 n])]⟩, k => chk (decide (0 ≤ i ∧ i ≤ ps.length ∧ ps.length ≤ 100 ∧ 0 ≤ n ∧ n ≤ l.length ∧ 0 ≤ now ∧ now ≤ 20 * i)) (DlvI b ps i now ⟨kn, kst, ka, kc, kl, ks, kq, kt⟩ ∧ ∀ t : Int, k (.exit 0) ⟨[(7, .ptr 7 0 0)], [(7, .box 57 [.int .i64 2, .int .i64 2, .int .u32 1, .int .i64 3, .int .i64 0, .ints false .u8 [], .int .i64 0, .int .i64 t])]⟩)
  | _, _ => False
def c12_0 : Cfg := { n := 170, Γ := GamL, C := ofL u12, pm := pmL [(17, pm17), (18, pm18), (22, pm22), (24, pm24), (26, pm26), (27, pm27), (30, pm30), (42, pm42), (46, pm46), (47, pm47)], plan := planB12, L := lpL [], unroll := nmL [], keep := kpL [(9, kp12_9)] }
def c12 : Cfg := { n := 170, Γ := GamL, C := ofL u12, pm := pmL [(17, pm17), (18, pm18), (22, pm22), (24, pm24), (26, pm26), (27, pm27), (30, pm30), (42, pm42), (46, pm46), (47, pm47)], plan := planB12, L := lpL [(9, L12_9)], unroll := nmL [], keep := kpL [(9, kp12_9)] }
def S12 : Tr
  | [.int .i64 seed, .int .i64 size, .ints false .i64 l], none, post => post (.bool true) none
  | _, _, _ => False
theorem t12_0 (seed size : Int) (l : List Int) (post : AV → Option AV → Prop) : runF c12 pm12 Proofs.Try.f12 [.int .i64 seed, .int .i64 size, .ints false .i64 l] none post = (∀ (r : Int),
     (0 : Int) ≤ r ∧ r ≤ (4097 : Int) →
     chk
     (decide
     ((0 : Int) ≤ IntKind.u64.wrap seed % (99 : Int) ∧
     IntKind.u64.wrap seed % (99 : Int) ≤ (1000 : Int) ∧
     (0 : Int) ≤ imin r (4096 : Int) ∧ imin r (4096 : Int) ≤ (4097 : Int)))
     (∀ (l_1 : List Int),
     RngL IntKind.u8 l_1 →
     l_1.length = (imin r (4096 : Int)).toNat →
     chk
     (decide
     ((0 : Int) ≤ (0 : Int) ∧
     (0 : Int) ≤ @Nat.cast Int _ (splitL (1 : Int) (3 : Int) l_1).length ∧
     (splitL (1 : Int) (3 : Int) l_1).length ≤ (100 : Nat) ∧
     (0 : Int) ≤ (0 : Int) ∧
     (0 : Int) ≤ @Nat.cast Int _ l.length ∧ (0 : Int) ≤ (0 : Int) ∧ (0 : Int) ≤ (0 : Int)))
     (DlvI l_1 (splitL (1 : Int) (3 : Int) l_1) (0 : Int) (0 : Int)
     (Lk.mk (kN (2 : Int)).n (kN (2 : Int)).st (kN (2 : Int)).a (kN (2 : Int)).cmd (kN (2 : Int)).len
     (kN (2 : Int)).s (kN (2 : Int)).q (kN (2 : Int)).t) ∧
     ∀ (t : Int), post (AV.bool true) none))) := by kernel_rfl
theorem q12_9 (now i n : Int) (b l : List Int) (ps : List Rec) (kn kst ka kc kl kq kt : Int) (ks : List Int) (k : Out → AS → Prop) : stepL c12_0 kp12_9 tr12_9 (loopAt Proofs.Try.f12 9) ⟨[(7, .ptr 7 0 0), (9, .ints false .u8 b), (10, .rs false 0 ps), (12, .ptr 36 0 0), (13, .int .i64 now), (14, .int .i64 i)], [(7, .box 57 [.int .i64 kn, .int .i64 kst, .int .u32 ka, .int .i64 kc, .int .i64 kl, .ints false .u8 ks, .int .i64 kq, .int .i64 kt]), (36, .box 83 [.ints false .i64 l, .int .i64 n])]⟩ k = (br (decide (i < @Nat.cast Int _ ps.length))
     (chk (inB i ps.length)
     (chk (decide (ks.length ≤ (100000 : Nat) ∧ (-1000000 : Int) ≤ kl ∧ kl ≤ (1000000 : Int)))
     (∀ (k' : Lk) (o' : Ou),
     recvL (Lk.mk kn kst ka kc kl ks kq kt) now
     (Rec.mk (ps.getD i.toNat default).a (ps.getD i.toNat default).b (ps.getD i.toNat default).c
     (ps.getD i.toNat default).d (ps.getD i.toNat default).f (ps.getD i.toNat default).s) =
     (k', o') →
     br (!o'.dl == (i == IntKind.i64.wrap (@Nat.cast Int _ ps.length - (1 : Int))))
     (k Out.ret (AS.mk [((6 : Nat), AV.bool false)] []))
     (br (i == IntKind.i64.wrap (@Nat.cast Int _ ps.length - (1 : Int)))
     (br (!strEq o'.ms b) (k Out.ret (AS.mk [((6 : Nat), AV.bool false)] []))
     (br o'.cn (k Out.ret (AS.mk [((6 : Nat), AV.bool false)] []))
     (br (decide (@Nat.cast Int _ o'.ps.length > (0 : Int)))
     (k Out.ret (AS.mk [((6 : Nat), AV.bool false)] []))
     (br (!i == IntKind.i64.wrap (@Nat.cast Int _ ps.length - (1 : Int)))
     (chk
     (decide
     ((0 : Int) < (2 : Int) ∧
     (2 : Int) ≤ (1000000 : Int) ∧ (0 : Int) ≤ n ∧ n ≤ @Nat.cast Int _ l.length))
     (br (nextR l n (2 : Int) == (1 : Int))
     (∀ (l_1 : List Int),
     RngL IntKind.u8 l_1 →
     l_1.length = clampN (3 : Int) →
     chk
     (decide
     (k'.s.length ≤ (100000 : Nat) ∧
     (-1000000 : Int) ≤ k'.len ∧ k'.len ≤ (1000000 : Int)))
     (∀ (k'_1 : Lk) (o' : Ou),
     recvL (Lk.mk k'.n k'.st k'.a k'.cmd k'.len k'.s k'.q k'.t) now
     (Rec.mk (2 : Int) (3 : Int) (3 : Int) (0 : Int) true l_1) =
     (k'_1, o') →
     br o'.dl (k Out.ret (AS.mk [((6 : Nat), AV.bool false)] []))
     (br (@Nat.cast Int _ o'.ps.length != (1 : Int))
     (k Out.ret (AS.mk [((6 : Nat), AV.bool false)] []))
     (chk (inB (0 : Int) o'.ps.length)
     (chk (decide ((0 : Nat) < o'.ps.length))
     (br ((o'.ps.getD (0 : Nat) default).1 != (2 : Int))
     (k Out.ret (AS.mk [((6 : Nat), AV.bool false)] []))
     (chk (inB (0 : Int) o'.ps.length)
     (chk (decide ((0 : Nat) < o'.ps.length))
     (br ((o'.ps.getD (0 : Nat) default).2 != (63 : Int))
     (k Out.ret (AS.mk [((6 : Nat), AV.bool false)] []))
     (chk (inB (0 : Int) o'.ps.length)
     (chk (decide ((0 : Nat) < o'.ps.length))
     (br (!strEq (o'.ps.getD (0 : Nat) default).6 [(32 : Int)])
     (k Out.ret (AS.mk [((6 : Nat), AV.bool false)] []))
     (chk
     (decide
     ((0 : Int) < (9 : Int) ∧
     (9 : Int) ≤ (1000000 : Int) ∧
     (0 : Int) ≤ nextN l n ∧
     nextN l n ≤ @Nat.cast Int _ l.length))
     (∀ (l_2 : List Int),
     RngL IntKind.u8 l_2 →
     l_2.length = clampN (59 : Int) →
     chk
     (decide
     (k'_1.s.length ≤ (100000 : Nat) ∧
     (-1000000 : Int) ≤ k'_1.len ∧
     k'_1.len ≤ (1000000 : Int)))
     (∀ (k' : Lk) (o' : Ou),
     recvL
     (Lk.mk k'_1.n k'_1.st k'_1.a k'_1.cmd
     k'_1.len k'_1.s k'_1.q k'_1.t)
     now
     (Rec.mk (2 : Int) (0 : Int) (0 : Int)
     (nextR l (nextN l n) (9 : Int))
     false l_2) =
     (k', o') →
     br o'.dl
     (k Out.ret
     (AS.mk [((6 : Nat), AV.bool false)]
     []))
     (br
     (decide
     (@Nat.cast Int _ o'.ps.length >
     (0 : Int)))
     (k Out.ret
     (AS.mk [((6 : Nat), AV.bool false)]
     []))
     (chk
     (decide
     ((0 : Int) < (21 : Int) ∧
     (21 : Int) ≤ (1000000 : Int) ∧
     (0 : Int) ≤
     nextN l (nextN l n) ∧
     nextN l (nextN l n) ≤
     @Nat.cast Int _ l.length))
     (k Out.normal
     (AS.mk
     [((7 : Nat),
     AV.ptr (7 : Nat) (0 : Nat)
     (0 : Nat)),
     ((9 : Nat),
     AV.ints false IntKind.u8 b),
     ((10 : Nat),
     AV.rs false (0 : Nat) ps),
     ((12 : Nat),
     AV.ptr (36 : Nat) (0 : Nat)
     (0 : Nat)),
     ((13 : Nat),
     AV.int IntKind.i64
     (IntKind.i64.wrap
     (now +
     nextR l
     (nextN l
     (nextN l n))
     (21 : Int)))),
     ((14 : Nat),
     AV.int IntKind.i64
     (IntKind.i64.wrap
     (i + (1 : Int))))]
     [((7 : Nat),
     AV.box (57 : Nat)
     [AV.int IntKind.i64 k'.n,
     AV.int IntKind.i64
     k'.st,
     AV.int IntKind.u32 k'.a,
     AV.int IntKind.i64
     k'.cmd,
     AV.int IntKind.i64
     k'.len,
     AV.ints false IntKind.u8
     k'.s,
     AV.int IntKind.i64 k'.q,
     AV.int IntKind.i64
     k'.t]),
     ((36 : Nat),
     AV.box (83 : Nat)
     [AV.ints false IntKind.i64
     l,
     AV.int IntKind.i64
     (nextN l
     (nextN l
     (nextN l
     n)))])])))))))))))))))))))
     (chk
     (decide
     ((0 : Int) < (21 : Int) ∧
     (21 : Int) ≤ (1000000 : Int) ∧
     (0 : Int) ≤ nextN l n ∧ nextN l n ≤ @Nat.cast Int _ l.length))
     (k Out.normal
     (AS.mk
     [((7 : Nat), AV.ptr (7 : Nat) (0 : Nat) (0 : Nat)),
     ((9 : Nat), AV.ints false IntKind.u8 b), ((10 : Nat), AV.rs false (0 : Nat) ps),
     ((12 : Nat), AV.ptr (36 : Nat) (0 : Nat) (0 : Nat)),
     ((13 : Nat),
     AV.int IntKind.i64 (IntKind.i64.wrap (now + nextR l (nextN l n) (21 : Int)))),
     ((14 : Nat), AV.int IntKind.i64 (IntKind.i64.wrap (i + (1 : Int))))]
     [((7 : Nat),
     AV.box (57 : Nat)
     [AV.int IntKind.i64 k'.n, AV.int IntKind.i64 k'.st, AV.int IntKind.u32 k'.a,
     AV.int IntKind.i64 k'.cmd, AV.int IntKind.i64 k'.len,
     AV.ints false IntKind.u8 k'.s, AV.int IntKind.i64 k'.q,
     AV.int IntKind.i64 k'.t]),
     ((36 : Nat),
     AV.box (83 : Nat)
     [AV.ints false IntKind.i64 l, AV.int IntKind.i64 (nextN l (nextN l n))])])))))
     (chk
     (decide
     ((0 : Int) < (21 : Int) ∧
     (21 : Int) ≤ (1000000 : Int) ∧ (0 : Int) ≤ n ∧ n ≤ @Nat.cast Int _ l.length))
     (k Out.normal
     (AS.mk
     [((7 : Nat), AV.ptr (7 : Nat) (0 : Nat) (0 : Nat)),
     ((9 : Nat), AV.ints false IntKind.u8 b), ((10 : Nat), AV.rs false (0 : Nat) ps),
     ((12 : Nat), AV.ptr (36 : Nat) (0 : Nat) (0 : Nat)),
     ((13 : Nat), AV.int IntKind.i64 (IntKind.i64.wrap (now + nextR l n (21 : Int)))),
     ((14 : Nat), AV.int IntKind.i64 (IntKind.i64.wrap (i + (1 : Int))))]
     [((7 : Nat),
     AV.box (57 : Nat)
     [AV.int IntKind.i64 k'.n, AV.int IntKind.i64 k'.st, AV.int IntKind.u32 k'.a,
     AV.int IntKind.i64 k'.cmd, AV.int IntKind.i64 k'.len,
     AV.ints false IntKind.u8 k'.s, AV.int IntKind.i64 k'.q,
     AV.int IntKind.i64 k'.t]),
     ((36 : Nat),
     AV.box (83 : Nat)
     [AV.ints false IntKind.i64 l, AV.int IntKind.i64 (nextN l n)])])))))))
     (br o'.cn (k Out.ret (AS.mk [((6 : Nat), AV.bool false)] []))
     (br (decide (@Nat.cast Int _ o'.ps.length > (0 : Int)))
     (k Out.ret (AS.mk [((6 : Nat), AV.bool false)] []))
     (br (!i == IntKind.i64.wrap (@Nat.cast Int _ ps.length - (1 : Int)))
     (chk
     (decide
     ((0 : Int) < (2 : Int) ∧
     (2 : Int) ≤ (1000000 : Int) ∧ (0 : Int) ≤ n ∧ n ≤ @Nat.cast Int _ l.length))
     (br (nextR l n (2 : Int) == (1 : Int))
     (∀ (l_1 : List Int),
     RngL IntKind.u8 l_1 →
     l_1.length = clampN (3 : Int) →
     chk
     (decide
     (k'.s.length ≤ (100000 : Nat) ∧
     (-1000000 : Int) ≤ k'.len ∧ k'.len ≤ (1000000 : Int)))
     (∀ (k'_1 : Lk) (o' : Ou),
     recvL (Lk.mk k'.n k'.st k'.a k'.cmd k'.len k'.s k'.q k'.t) now
     (Rec.mk (2 : Int) (3 : Int) (3 : Int) (0 : Int) true l_1) =
     (k'_1, o') →
     br o'.dl (k Out.ret (AS.mk [((6 : Nat), AV.bool false)] []))
     (br (@Nat.cast Int _ o'.ps.length != (1 : Int))
     (k Out.ret (AS.mk [((6 : Nat), AV.bool false)] []))
     (chk (inB (0 : Int) o'.ps.length)
     (chk (decide ((0 : Nat) < o'.ps.length))
     (br ((o'.ps.getD (0 : Nat) default).1 != (2 : Int))
     (k Out.ret (AS.mk [((6 : Nat), AV.bool false)] []))
     (chk (inB (0 : Int) o'.ps.length)
     (chk (decide ((0 : Nat) < o'.ps.length))
     (br ((o'.ps.getD (0 : Nat) default).2 != (63 : Int))
     (k Out.ret (AS.mk [((6 : Nat), AV.bool false)] []))
     (chk (inB (0 : Int) o'.ps.length)
     (chk (decide ((0 : Nat) < o'.ps.length))
     (br (!strEq (o'.ps.getD (0 : Nat) default).6 [(32 : Int)])
     (k Out.ret (AS.mk [((6 : Nat), AV.bool false)] []))
     (chk
     (decide
     ((0 : Int) < (9 : Int) ∧
     (9 : Int) ≤ (1000000 : Int) ∧
     (0 : Int) ≤ nextN l n ∧
     nextN l n ≤ @Nat.cast Int _ l.length))
     (∀ (l_2 : List Int),
     RngL IntKind.u8 l_2 →
     l_2.length = clampN (59 : Int) →
     chk
     (decide
     (k'_1.s.length ≤ (100000 : Nat) ∧
     (-1000000 : Int) ≤ k'_1.len ∧
     k'_1.len ≤ (1000000 : Int)))
     (∀ (k' : Lk) (o' : Ou),
     recvL
     (Lk.mk k'_1.n k'_1.st k'_1.a k'_1.cmd
     k'_1.len k'_1.s k'_1.q k'_1.t)
     now
     (Rec.mk (2 : Int) (0 : Int) (0 : Int)
     (nextR l (nextN l n) (9 : Int)) false
     l_2) =
     (k', o') →
     br o'.dl
     (k Out.ret
     (AS.mk [((6 : Nat), AV.bool false)] []))
     (br
     (decide
     (@Nat.cast Int _ o'.ps.length > (0 : Int)))
     (k Out.ret
     (AS.mk [((6 : Nat), AV.bool false)]
     []))
     (chk
     (decide
     ((0 : Int) < (21 : Int) ∧
     (21 : Int) ≤ (1000000 : Int) ∧
     (0 : Int) ≤
     nextN l (nextN l n) ∧
     nextN l (nextN l n) ≤
     @Nat.cast Int _ l.length))
     (k Out.normal
     (AS.mk
     [((7 : Nat),
     AV.ptr (7 : Nat) (0 : Nat)
     (0 : Nat)),
     ((9 : Nat),
     AV.ints false IntKind.u8 b),
     ((10 : Nat),
     AV.rs false (0 : Nat) ps),
     ((12 : Nat),
     AV.ptr (36 : Nat) (0 : Nat)
     (0 : Nat)),
     ((13 : Nat),
     AV.int IntKind.i64
     (IntKind.i64.wrap
     (now +
     nextR l
     (nextN l (nextN l n))
     (21 : Int)))),
     ((14 : Nat),
     AV.int IntKind.i64
     (IntKind.i64.wrap
     (i + (1 : Int))))]
     [((7 : Nat),
     AV.box (57 : Nat)
     [AV.int IntKind.i64 k'.n,
     AV.int IntKind.i64 k'.st,
     AV.int IntKind.u32 k'.a,
     AV.int IntKind.i64 k'.cmd,
     AV.int IntKind.i64 k'.len,
     AV.ints false IntKind.u8
     k'.s,
     AV.int IntKind.i64 k'.q,
     AV.int IntKind.i64 k'.t]),
     ((36 : Nat),
     AV.box (83 : Nat)
     [AV.ints false IntKind.i64
     l,
     AV.int IntKind.i64
     (nextN l
     (nextN l
     (nextN l
     n)))])])))))))))))))))))))
     (chk
     (decide
     ((0 : Int) < (21 : Int) ∧
     (21 : Int) ≤ (1000000 : Int) ∧
     (0 : Int) ≤ nextN l n ∧ nextN l n ≤ @Nat.cast Int _ l.length))
     (k Out.normal
     (AS.mk
     [((7 : Nat), AV.ptr (7 : Nat) (0 : Nat) (0 : Nat)),
     ((9 : Nat), AV.ints false IntKind.u8 b), ((10 : Nat), AV.rs false (0 : Nat) ps),
     ((12 : Nat), AV.ptr (36 : Nat) (0 : Nat) (0 : Nat)),
     ((13 : Nat),
     AV.int IntKind.i64 (IntKind.i64.wrap (now + nextR l (nextN l n) (21 : Int)))),
     ((14 : Nat), AV.int IntKind.i64 (IntKind.i64.wrap (i + (1 : Int))))]
     [((7 : Nat),
     AV.box (57 : Nat)
     [AV.int IntKind.i64 k'.n, AV.int IntKind.i64 k'.st, AV.int IntKind.u32 k'.a,
     AV.int IntKind.i64 k'.cmd, AV.int IntKind.i64 k'.len,
     AV.ints false IntKind.u8 k'.s, AV.int IntKind.i64 k'.q,
     AV.int IntKind.i64 k'.t]),
     ((36 : Nat),
     AV.box (83 : Nat)
     [AV.ints false IntKind.i64 l, AV.int IntKind.i64 (nextN l (nextN l n))])])))))
     (chk
     (decide
     ((0 : Int) < (21 : Int) ∧
     (21 : Int) ≤ (1000000 : Int) ∧ (0 : Int) ≤ n ∧ n ≤ @Nat.cast Int _ l.length))
     (k Out.normal
     (AS.mk
     [((7 : Nat), AV.ptr (7 : Nat) (0 : Nat) (0 : Nat)),
     ((9 : Nat), AV.ints false IntKind.u8 b), ((10 : Nat), AV.rs false (0 : Nat) ps),
     ((12 : Nat), AV.ptr (36 : Nat) (0 : Nat) (0 : Nat)),
     ((13 : Nat), AV.int IntKind.i64 (IntKind.i64.wrap (now + nextR l n (21 : Int)))),
     ((14 : Nat), AV.int IntKind.i64 (IntKind.i64.wrap (i + (1 : Int))))]
     [((7 : Nat),
     AV.box (57 : Nat)
     [AV.int IntKind.i64 k'.n, AV.int IntKind.i64 k'.st, AV.int IntKind.u32 k'.a,
     AV.int IntKind.i64 k'.cmd, AV.int IntKind.i64 k'.len,
     AV.ints false IntKind.u8 k'.s, AV.int IntKind.i64 k'.q, AV.int IntKind.i64 k'.t]),
     ((36 : Nat),
     AV.box (83 : Nat)
     [AV.ints false IntKind.i64 l, AV.int IntKind.i64 (nextN l n)])]))))))) ∧
     ∀ (K : AS → Prop),
     K
     (AS.mk
     [((7 : Nat), AV.ptr (7 : Nat) (0 : Nat) (0 : Nat)), ((9 : Nat), AV.ints false IntKind.u8 b),
     ((10 : Nat), AV.rs false (0 : Nat) ps), ((12 : Nat), AV.ptr (36 : Nat) (0 : Nat) (0 : Nat)),
     ((13 : Nat), AV.int IntKind.i64 now), ((14 : Nat), AV.int IntKind.i64 i),
     ((15 : Nat), AV.ptr (15 : Nat) (0 : Nat) (0 : Nat)),
     ((16 : Nat), AV.ptr (16 : Nat) (0 : Nat) (0 : Nat)), ((37 : Nat), AV.int IntKind.i64 i),
     ((38 : Nat), AV.rs false (0 : Nat) ps), ((39 : Nat), AV.int IntKind.i64 (@Nat.cast Int _ ps.length)),
     ((40 : Nat), AV.bool true),
     ((43 : Nat),
     AV.tup
     [AV.agg
     [AV.int IntKind.i64 k'.n, AV.int IntKind.i64 k'.st, AV.int IntKind.u32 k'.a,
     AV.int IntKind.i64 k'.cmd, AV.int IntKind.i64 k'.len, AV.ints false IntKind.u8 k'.s,
     AV.int IntKind.i64 k'.q, AV.int IntKind.i64 k'.t],
     AV.agg
     [AV.ownf (50 : Nat), AV.bool o'.dl, AV.ints false IntKind.u8 o'.ms, AV.bool o'.cn]]),
     ((44 : Nat),
     AV.agg
     [AV.int IntKind.i64 kn, AV.int IntKind.i64 kst, AV.int IntKind.u32 ka,
     AV.int IntKind.i64 kc, AV.int IntKind.i64 kl, AV.ints false IntKind.u8 ks,
     AV.int IntKind.i64 kq, AV.int IntKind.i64 kt]),
     ((45 : Nat), AV.int IntKind.i64 now), ((46 : Nat), AV.rs false (0 : Nat) ps),
     ((47 : Nat), AV.int IntKind.i64 i),
     ((48 : Nat),
     AV.gpr (0 : Nat)
     (Option.rec ((fun (_ : Unit) => default) ())
     (fun (val : Rec) => (fun (val : Rec) => (fun (x : Rec) => x) val) val) ps[i.toNat]?)
     (0 : Nat)),
     ((49 : Nat),
     AV.agg
     [AV.int IntKind.u32 (ps.getD i.toNat default).1, AV.bool (ps.getD i.toNat default).5,
     AV.int IntKind.i64 (ps.getD i.toNat default).2,
     AV.int IntKind.i64 (ps.getD i.toNat default).3,
     AV.int IntKind.i64 (ps.getD i.toNat default).4,
     AV.ints false IntKind.u8 (ps.getD i.toNat default).6]),
     ((50 : Nat),
     AV.tup
     [AV.agg
     [AV.int IntKind.i64 k'.n, AV.int IntKind.i64 k'.st, AV.int IntKind.u32 k'.a,
     AV.int IntKind.i64 k'.cmd, AV.int IntKind.i64 k'.len, AV.ints false IntKind.u8 k'.s,
     AV.int IntKind.i64 k'.q, AV.int IntKind.i64 k'.t],
     AV.agg
     [AV.ownf (50 : Nat), AV.bool o'.dl, AV.ints false IntKind.u8 o'.ms, AV.bool o'.cn]]),
     ((51 : Nat),
     AV.agg
     [AV.int IntKind.i64 k'.n, AV.int IntKind.i64 k'.st, AV.int IntKind.u32 k'.a,
     AV.int IntKind.i64 k'.cmd, AV.int IntKind.i64 k'.len, AV.ints false IntKind.u8 k'.s,
     AV.int IntKind.i64 k'.q, AV.int IntKind.i64 k'.t]),
     ((52 : Nat),
     AV.agg [AV.ownf (50 : Nat), AV.bool o'.dl, AV.ints false IntKind.u8 o'.ms, AV.bool o'.cn])]
     [((7 : Nat),
     AV.box (57 : Nat)
     [AV.int IntKind.i64 kn, AV.int IntKind.i64 kst, AV.int IntKind.u32 ka,
     AV.int IntKind.i64 kc, AV.int IntKind.i64 kl, AV.ints false IntKind.u8 ks,
     AV.int IntKind.i64 kq, AV.int IntKind.i64 kt]),
     ((15 : Nat),
     AV.box (57 : Nat)
     [AV.int IntKind.i64 k'.n, AV.int IntKind.i64 k'.st, AV.int IntKind.u32 k'.a,
     AV.int IntKind.i64 k'.cmd, AV.int IntKind.i64 k'.len, AV.ints false IntKind.u8 k'.s,
     AV.int IntKind.i64 k'.q, AV.int IntKind.i64 k'.t]),
     ((16 : Nat),
     AV.box (59 : Nat)
     [AV.ownf (50 : Nat), AV.bool o'.dl, AV.ints false IntKind.u8 o'.ms, AV.bool o'.cn]),
     ((36 : Nat), AV.box (83 : Nat) [AV.ints false IntKind.i64 l, AV.int IntKind.i64 n]),
     ((50 : Nat), AV.linr (38 : Nat) (0 : Nat) o'.ps)]) →
     K
     (AS.mk
     [((7 : Nat), AV.ptr (7 : Nat) (0 : Nat) (0 : Nat)), ((9 : Nat), AV.ints false IntKind.u8 b),
     ((10 : Nat), AV.rs false (0 : Nat) ps), ((12 : Nat), AV.ptr (36 : Nat) (0 : Nat) (0 : Nat)),
     ((13 : Nat), AV.int IntKind.i64 now), ((14 : Nat), AV.int IntKind.i64 i),
     ((15 : Nat), AV.ptr (15 : Nat) (0 : Nat) (0 : Nat)),
     ((16 : Nat), AV.ptr (16 : Nat) (0 : Nat) (0 : Nat)), ((37 : Nat), AV.int IntKind.i64 i),
     ((38 : Nat), AV.rs false (0 : Nat) ps), ((39 : Nat), AV.int IntKind.i64 (@Nat.cast Int _ ps.length)),
     ((40 : Nat), AV.bool true),
     ((43 : Nat),
     AV.tup
     [AV.agg
     [AV.int IntKind.i64 k'.n, AV.int IntKind.i64 k'.st, AV.int IntKind.u32 k'.a,
     AV.int IntKind.i64 k'.cmd, AV.int IntKind.i64 k'.len, AV.ints false IntKind.u8 k'.s,
     AV.int IntKind.i64 k'.q, AV.int IntKind.i64 k'.t],
     AV.agg
     [AV.ownf (50 : Nat), AV.bool o'.dl, AV.ints false IntKind.u8 o'.ms, AV.bool o'.cn]]),
     ((44 : Nat),
     AV.agg
     [AV.int IntKind.i64 kn, AV.int IntKind.i64 kst, AV.int IntKind.u32 ka,
     AV.int IntKind.i64 kc, AV.int IntKind.i64 kl, AV.ints false IntKind.u8 ks,
     AV.int IntKind.i64 kq, AV.int IntKind.i64 kt]),
     ((45 : Nat), AV.int IntKind.i64 now), ((46 : Nat), AV.rs false (0 : Nat) ps),
     ((47 : Nat), AV.int IntKind.i64 i),
     ((48 : Nat),
     AV.gpr (0 : Nat)
     (Option.rec ((fun (_ : Unit) => default) ())
     (fun (val : Rec) => (fun (val : Rec) => (fun (x : Rec) => x) val) val) ps[i.toNat]?)
     (0 : Nat)),
     ((49 : Nat),
     AV.agg
     [AV.int IntKind.u32 (ps.getD i.toNat default).1, AV.bool (ps.getD i.toNat default).5,
     AV.int IntKind.i64 (ps.getD i.toNat default).2,
     AV.int IntKind.i64 (ps.getD i.toNat default).3,
     AV.int IntKind.i64 (ps.getD i.toNat default).4,
     AV.ints false IntKind.u8 (ps.getD i.toNat default).6]),
     ((50 : Nat),
     AV.tup
     [AV.agg
     [AV.int IntKind.i64 k'.n, AV.int IntKind.i64 k'.st, AV.int IntKind.u32 k'.a,
     AV.int IntKind.i64 k'.cmd, AV.int IntKind.i64 k'.len, AV.ints false IntKind.u8 k'.s,
     AV.int IntKind.i64 k'.q, AV.int IntKind.i64 k'.t],
     AV.agg
     [AV.ownf (50 : Nat), AV.bool o'.dl, AV.ints false IntKind.u8 o'.ms, AV.bool o'.cn]]),
     ((51 : Nat),
     AV.agg
     [AV.int IntKind.i64 k'.n, AV.int IntKind.i64 k'.st, AV.int IntKind.u32 k'.a,
     AV.int IntKind.i64 k'.cmd, AV.int IntKind.i64 k'.len, AV.ints false IntKind.u8 k'.s,
     AV.int IntKind.i64 k'.q, AV.int IntKind.i64 k'.t]),
     ((52 : Nat),
     AV.agg [AV.ownf (50 : Nat), AV.bool o'.dl, AV.ints false IntKind.u8 o'.ms, AV.bool o'.cn])]
     [((7 : Nat),
     AV.box (57 : Nat)
     [AV.int IntKind.i64 kn, AV.int IntKind.i64 kst, AV.int IntKind.u32 ka,
     AV.int IntKind.i64 kc, AV.int IntKind.i64 kl, AV.ints false IntKind.u8 ks,
     AV.int IntKind.i64 kq, AV.int IntKind.i64 kt]),
     ((15 : Nat),
     AV.box (57 : Nat)
     [AV.int IntKind.i64 k'.n, AV.int IntKind.i64 k'.st, AV.int IntKind.u32 k'.a,
     AV.int IntKind.i64 k'.cmd, AV.int IntKind.i64 k'.len, AV.ints false IntKind.u8 k'.s,
     AV.int IntKind.i64 k'.q, AV.int IntKind.i64 k'.t]),
     ((16 : Nat),
     AV.box (59 : Nat)
     [AV.ownf (50 : Nat), AV.bool o'.dl, AV.ints false IntKind.u8 o'.ms, AV.bool o'.cn]),
     ((36 : Nat), AV.box (83 : Nat) [AV.ints false IntKind.i64 l, AV.int IntKind.i64 n]),
     ((50 : Nat), AV.linr (38 : Nat) (0 : Nat) o'.ps)])) ∧
     ∀ (K : AS → Prop),
     chk (decide (ks.length ≤ (100000 : Nat) ∧ (-1000000 : Int) ≤ kl ∧ kl ≤ (1000000 : Int)))
     (∀ (k' : Lk) (o' : Ou),
     recvL (Lk.mk kn kst ka kc kl ks kq kt) now
     (Rec.mk (ps.getD i.toNat default).a (ps.getD i.toNat default).b (ps.getD i.toNat default).c
     (ps.getD i.toNat default).d (ps.getD i.toNat default).f (ps.getD i.toNat default).s) =
     (k', o') →
     K
     (AS.mk
     [((7 : Nat), AV.ptr (7 : Nat) (0 : Nat) (0 : Nat)), ((9 : Nat), AV.ints false IntKind.u8 b),
     ((10 : Nat), AV.rs false (0 : Nat) ps), ((12 : Nat), AV.ptr (36 : Nat) (0 : Nat) (0 : Nat)),
     ((13 : Nat), AV.int IntKind.i64 now), ((14 : Nat), AV.int IntKind.i64 i),
     ((15 : Nat), AV.ptr (15 : Nat) (0 : Nat) (0 : Nat)),
     ((16 : Nat), AV.ptr (16 : Nat) (0 : Nat) (0 : Nat)), ((37 : Nat), AV.int IntKind.i64 i),
     ((38 : Nat), AV.rs false (0 : Nat) ps), ((39 : Nat), AV.int IntKind.i64 (@Nat.cast Int _ ps.length)),
     ((40 : Nat), AV.bool true),
     ((43 : Nat),
     AV.tup
     [AV.agg
     [AV.int IntKind.i64 k'.n, AV.int IntKind.i64 k'.st, AV.int IntKind.u32 k'.a,
     AV.int IntKind.i64 k'.cmd, AV.int IntKind.i64 k'.len, AV.ints false IntKind.u8 k'.s,
     AV.int IntKind.i64 k'.q, AV.int IntKind.i64 k'.t],
     AV.agg
     [AV.ownf (50 : Nat), AV.bool o'.dl, AV.ints false IntKind.u8 o'.ms, AV.bool o'.cn]]),
     ((44 : Nat),
     AV.agg
     [AV.int IntKind.i64 kn, AV.int IntKind.i64 kst, AV.int IntKind.u32 ka,
     AV.int IntKind.i64 kc, AV.int IntKind.i64 kl, AV.ints false IntKind.u8 ks,
     AV.int IntKind.i64 kq, AV.int IntKind.i64 kt]),
     ((45 : Nat), AV.int IntKind.i64 now), ((46 : Nat), AV.rs false (0 : Nat) ps),
     ((47 : Nat), AV.int IntKind.i64 i),
     ((48 : Nat),
     AV.gpr (0 : Nat)
     (Option.rec ((fun (_ : Unit) => default) ())
     (fun (val : Rec) => (fun (val : Rec) => (fun (x : Rec) => x) val) val) ps[i.toNat]?)
     (0 : Nat)),
     ((49 : Nat),
     AV.agg
     [AV.int IntKind.u32 (ps.getD i.toNat default).1, AV.bool (ps.getD i.toNat default).5,
     AV.int IntKind.i64 (ps.getD i.toNat default).2,
     AV.int IntKind.i64 (ps.getD i.toNat default).3,
     AV.int IntKind.i64 (ps.getD i.toNat default).4,
     AV.ints false IntKind.u8 (ps.getD i.toNat default).6]),
     ((50 : Nat),
     AV.tup
     [AV.agg
     [AV.int IntKind.i64 k'.n, AV.int IntKind.i64 k'.st, AV.int IntKind.u32 k'.a,
     AV.int IntKind.i64 k'.cmd, AV.int IntKind.i64 k'.len, AV.ints false IntKind.u8 k'.s,
     AV.int IntKind.i64 k'.q, AV.int IntKind.i64 k'.t],
     AV.agg
     [AV.ownf (50 : Nat), AV.bool o'.dl, AV.ints false IntKind.u8 o'.ms, AV.bool o'.cn]]),
     ((51 : Nat),
     AV.agg
     [AV.int IntKind.i64 k'.n, AV.int IntKind.i64 k'.st, AV.int IntKind.u32 k'.a,
     AV.int IntKind.i64 k'.cmd, AV.int IntKind.i64 k'.len, AV.ints false IntKind.u8 k'.s,
     AV.int IntKind.i64 k'.q, AV.int IntKind.i64 k'.t]),
     ((52 : Nat),
     AV.agg [AV.ownf (50 : Nat), AV.bool o'.dl, AV.ints false IntKind.u8 o'.ms, AV.bool o'.cn])]
     [((7 : Nat),
     AV.box (57 : Nat)
     [AV.int IntKind.i64 kn, AV.int IntKind.i64 kst, AV.int IntKind.u32 ka,
     AV.int IntKind.i64 kc, AV.int IntKind.i64 kl, AV.ints false IntKind.u8 ks,
     AV.int IntKind.i64 kq, AV.int IntKind.i64 kt]),
     ((15 : Nat),
     AV.box (57 : Nat)
     [AV.int IntKind.i64 k'.n, AV.int IntKind.i64 k'.st, AV.int IntKind.u32 k'.a,
     AV.int IntKind.i64 k'.cmd, AV.int IntKind.i64 k'.len, AV.ints false IntKind.u8 k'.s,
     AV.int IntKind.i64 k'.q, AV.int IntKind.i64 k'.t]),
     ((16 : Nat),
     AV.box (59 : Nat)
     [AV.ownf (50 : Nat), AV.bool o'.dl, AV.ints false IntKind.u8 o'.ms, AV.bool o'.cn]),
     ((36 : Nat), AV.box (83 : Nat) [AV.ints false IntKind.i64 l, AV.int IntKind.i64 n]),
     ((50 : Nat), AV.linr (38 : Nat) (0 : Nat) o'.ps)]) ∧
     ∀ (K : AS → Prop),
     K
     (AS.mk
     [((7 : Nat), AV.ptr (7 : Nat) (0 : Nat) (0 : Nat)), ((9 : Nat), AV.ints false IntKind.u8 b),
     ((10 : Nat), AV.rs false (0 : Nat) ps), ((12 : Nat), AV.ptr (36 : Nat) (0 : Nat) (0 : Nat)),
     ((13 : Nat), AV.int IntKind.i64 now), ((14 : Nat), AV.int IntKind.i64 i),
     ((15 : Nat), AV.ptr (15 : Nat) (0 : Nat) (0 : Nat)),
     ((16 : Nat), AV.ptr (16 : Nat) (0 : Nat) (0 : Nat)), ((37 : Nat), AV.int IntKind.i64 i),
     ((38 : Nat), AV.rs false (0 : Nat) ps),
     ((39 : Nat), AV.int IntKind.i64 (@Nat.cast Int _ ps.length)), ((40 : Nat), AV.bool true),
     ((43 : Nat),
     AV.tup
     [AV.agg
     [AV.int IntKind.i64 k'.n, AV.int IntKind.i64 k'.st, AV.int IntKind.u32 k'.a,
     AV.int IntKind.i64 k'.cmd, AV.int IntKind.i64 k'.len,
     AV.ints false IntKind.u8 k'.s, AV.int IntKind.i64 k'.q, AV.int IntKind.i64 k'.t],
     AV.agg
     [AV.ownf (50 : Nat), AV.bool o'.dl, AV.ints false IntKind.u8 o'.ms,
     AV.bool o'.cn]]),
     ((44 : Nat),
     AV.agg
     [AV.int IntKind.i64 kn, AV.int IntKind.i64 kst, AV.int IntKind.u32 ka,
     AV.int IntKind.i64 kc, AV.int IntKind.i64 kl, AV.ints false IntKind.u8 ks,
     AV.int IntKind.i64 kq, AV.int IntKind.i64 kt]),
     ((45 : Nat), AV.int IntKind.i64 now), ((46 : Nat), AV.rs false (0 : Nat) ps),
     ((47 : Nat), AV.int IntKind.i64 i),
     ((48 : Nat),
     AV.gpr (0 : Nat)
     (Option.rec ((fun (_ : Unit) => default) ())
     (fun (val : Rec) => (fun (val : Rec) => (fun (x : Rec) => x) val) val) ps[i.toNat]?)
     (0 : Nat)),
     ((49 : Nat),
     AV.agg
     [AV.int IntKind.u32 (ps.getD i.toNat default).1, AV.bool (ps.getD i.toNat default).5,
     AV.int IntKind.i64 (ps.getD i.toNat default).2,
     AV.int IntKind.i64 (ps.getD i.toNat default).3,
     AV.int IntKind.i64 (ps.getD i.toNat default).4,
     AV.ints false IntKind.u8 (ps.getD i.toNat default).6]),
     ((50 : Nat),
     AV.tup
     [AV.agg
     [AV.int IntKind.i64 k'.n, AV.int IntKind.i64 k'.st, AV.int IntKind.u32 k'.a,
     AV.int IntKind.i64 k'.cmd, AV.int IntKind.i64 k'.len,
     AV.ints false IntKind.u8 k'.s, AV.int IntKind.i64 k'.q, AV.int IntKind.i64 k'.t],
     AV.agg
     [AV.ownf (50 : Nat), AV.bool o'.dl, AV.ints false IntKind.u8 o'.ms,
     AV.bool o'.cn]]),
     ((51 : Nat),
     AV.agg
     [AV.int IntKind.i64 k'.n, AV.int IntKind.i64 k'.st, AV.int IntKind.u32 k'.a,
     AV.int IntKind.i64 k'.cmd, AV.int IntKind.i64 k'.len, AV.ints false IntKind.u8 k'.s,
     AV.int IntKind.i64 k'.q, AV.int IntKind.i64 k'.t]),
     ((52 : Nat),
     AV.agg
     [AV.ownf (50 : Nat), AV.bool o'.dl, AV.ints false IntKind.u8 o'.ms, AV.bool o'.cn])]
     [((7 : Nat),
     AV.box (57 : Nat)
     [AV.int IntKind.i64 kn, AV.int IntKind.i64 kst, AV.int IntKind.u32 ka,
     AV.int IntKind.i64 kc, AV.int IntKind.i64 kl, AV.ints false IntKind.u8 ks,
     AV.int IntKind.i64 kq, AV.int IntKind.i64 kt]),
     ((15 : Nat),
     AV.box (57 : Nat)
     [AV.int IntKind.i64 k'.n, AV.int IntKind.i64 k'.st, AV.int IntKind.u32 k'.a,
     AV.int IntKind.i64 k'.cmd, AV.int IntKind.i64 k'.len, AV.ints false IntKind.u8 k'.s,
     AV.int IntKind.i64 k'.q, AV.int IntKind.i64 k'.t]),
     ((16 : Nat),
     AV.box (59 : Nat)
     [AV.ownf (50 : Nat), AV.bool o'.dl, AV.ints false IntKind.u8 o'.ms, AV.bool o'.cn]),
     ((36 : Nat), AV.box (83 : Nat) [AV.ints false IntKind.i64 l, AV.int IntKind.i64 n]),
     ((50 : Nat), AV.linr (38 : Nat) (0 : Nat) o'.ps)]) →
     K
     (AS.mk
     [((7 : Nat), AV.ptr (7 : Nat) (0 : Nat) (0 : Nat)), ((9 : Nat), AV.ints false IntKind.u8 b),
     ((10 : Nat), AV.rs false (0 : Nat) ps), ((12 : Nat), AV.ptr (36 : Nat) (0 : Nat) (0 : Nat)),
     ((13 : Nat), AV.int IntKind.i64 now), ((14 : Nat), AV.int IntKind.i64 i),
     ((15 : Nat), AV.ptr (15 : Nat) (0 : Nat) (0 : Nat)),
     ((16 : Nat), AV.ptr (16 : Nat) (0 : Nat) (0 : Nat)), ((37 : Nat), AV.int IntKind.i64 i),
     ((38 : Nat), AV.rs false (0 : Nat) ps),
     ((39 : Nat), AV.int IntKind.i64 (@Nat.cast Int _ ps.length)), ((40 : Nat), AV.bool true),
     ((43 : Nat),
     AV.tup
     [AV.agg
     [AV.int IntKind.i64 k'.n, AV.int IntKind.i64 k'.st, AV.int IntKind.u32 k'.a,
     AV.int IntKind.i64 k'.cmd, AV.int IntKind.i64 k'.len,
     AV.ints false IntKind.u8 k'.s, AV.int IntKind.i64 k'.q, AV.int IntKind.i64 k'.t],
     AV.agg
     [AV.ownf (50 : Nat), AV.bool o'.dl, AV.ints false IntKind.u8 o'.ms,
     AV.bool o'.cn]]),
     ((44 : Nat),
     AV.agg
     [AV.int IntKind.i64 kn, AV.int IntKind.i64 kst, AV.int IntKind.u32 ka,
     AV.int IntKind.i64 kc, AV.int IntKind.i64 kl, AV.ints false IntKind.u8 ks,
     AV.int IntKind.i64 kq, AV.int IntKind.i64 kt]),
     ((45 : Nat), AV.int IntKind.i64 now), ((46 : Nat), AV.rs false (0 : Nat) ps),
     ((47 : Nat), AV.int IntKind.i64 i),
     ((48 : Nat),
     AV.gpr (0 : Nat)
     (Option.rec ((fun (_ : Unit) => default) ())
     (fun (val : Rec) => (fun (val : Rec) => (fun (x : Rec) => x) val) val) ps[i.toNat]?)
     (0 : Nat)),
     ((49 : Nat),
     AV.agg
     [AV.int IntKind.u32 (ps.getD i.toNat default).1, AV.bool (ps.getD i.toNat default).5,
     AV.int IntKind.i64 (ps.getD i.toNat default).2,
     AV.int IntKind.i64 (ps.getD i.toNat default).3,
     AV.int IntKind.i64 (ps.getD i.toNat default).4,
     AV.ints false IntKind.u8 (ps.getD i.toNat default).6]),
     ((50 : Nat),
     AV.tup
     [AV.agg
     [AV.int IntKind.i64 k'.n, AV.int IntKind.i64 k'.st, AV.int IntKind.u32 k'.a,
     AV.int IntKind.i64 k'.cmd, AV.int IntKind.i64 k'.len,
     AV.ints false IntKind.u8 k'.s, AV.int IntKind.i64 k'.q, AV.int IntKind.i64 k'.t],
     AV.agg
     [AV.ownf (50 : Nat), AV.bool o'.dl, AV.ints false IntKind.u8 o'.ms,
     AV.bool o'.cn]]),
     ((51 : Nat),
     AV.agg
     [AV.int IntKind.i64 k'.n, AV.int IntKind.i64 k'.st, AV.int IntKind.u32 k'.a,
     AV.int IntKind.i64 k'.cmd, AV.int IntKind.i64 k'.len, AV.ints false IntKind.u8 k'.s,
     AV.int IntKind.i64 k'.q, AV.int IntKind.i64 k'.t]),
     ((52 : Nat),
     AV.agg
     [AV.ownf (50 : Nat), AV.bool o'.dl, AV.ints false IntKind.u8 o'.ms, AV.bool o'.cn])]
     [((7 : Nat),
     AV.box (57 : Nat)
     [AV.int IntKind.i64 kn, AV.int IntKind.i64 kst, AV.int IntKind.u32 ka,
     AV.int IntKind.i64 kc, AV.int IntKind.i64 kl, AV.ints false IntKind.u8 ks,
     AV.int IntKind.i64 kq, AV.int IntKind.i64 kt]),
     ((15 : Nat),
     AV.box (57 : Nat)
     [AV.int IntKind.i64 k'.n, AV.int IntKind.i64 k'.st, AV.int IntKind.u32 k'.a,
     AV.int IntKind.i64 k'.cmd, AV.int IntKind.i64 k'.len, AV.ints false IntKind.u8 k'.s,
     AV.int IntKind.i64 k'.q, AV.int IntKind.i64 k'.t]),
     ((16 : Nat),
     AV.box (59 : Nat)
     [AV.ownf (50 : Nat), AV.bool o'.dl, AV.ints false IntKind.u8 o'.ms, AV.bool o'.cn]),
     ((36 : Nat), AV.box (83 : Nat) [AV.ints false IntKind.i64 l, AV.int IntKind.i64 n]),
     ((50 : Nat), AV.linr (38 : Nat) (0 : Nat) o'.ps)])) →
     (chk (decide (ks.length ≤ (100000 : Nat) ∧ (-1000000 : Int) ≤ kl ∧ kl ≤ (1000000 : Int)))
     (∀ (k' : Lk) (o' : Ou),
     recvL (Lk.mk kn kst ka kc kl ks kq kt) now
     (Rec.mk (ps.getD i.toNat default).a (ps.getD i.toNat default).b (ps.getD i.toNat default).c
     (ps.getD i.toNat default).d (ps.getD i.toNat default).f (ps.getD i.toNat default).s) =
     (k', o') →
     K
     (AS.mk
     [((7 : Nat), AV.ptr (7 : Nat) (0 : Nat) (0 : Nat)), ((9 : Nat), AV.ints false IntKind.u8 b),
     ((10 : Nat), AV.rs false (0 : Nat) ps), ((12 : Nat), AV.ptr (36 : Nat) (0 : Nat) (0 : Nat)),
     ((13 : Nat), AV.int IntKind.i64 now), ((14 : Nat), AV.int IntKind.i64 i),
     ((15 : Nat), AV.ptr (15 : Nat) (0 : Nat) (0 : Nat)),
     ((16 : Nat), AV.ptr (16 : Nat) (0 : Nat) (0 : Nat)), ((37 : Nat), AV.int IntKind.i64 i),
     ((38 : Nat), AV.rs false (0 : Nat) ps),
     ((39 : Nat), AV.int IntKind.i64 (@Nat.cast Int _ ps.length)), ((40 : Nat), AV.bool true),
     ((43 : Nat),
     AV.tup
     [AV.agg
     [AV.int IntKind.i64 k'.n, AV.int IntKind.i64 k'.st, AV.int IntKind.u32 k'.a,
     AV.int IntKind.i64 k'.cmd, AV.int IntKind.i64 k'.len, AV.ints false IntKind.u8 k'.s,
     AV.int IntKind.i64 k'.q, AV.int IntKind.i64 k'.t],
     AV.agg
     [AV.ownf (50 : Nat), AV.bool o'.dl, AV.ints false IntKind.u8 o'.ms, AV.bool o'.cn]]),
     ((44 : Nat),
     AV.agg
     [AV.int IntKind.i64 kn, AV.int IntKind.i64 kst, AV.int IntKind.u32 ka,
     AV.int IntKind.i64 kc, AV.int IntKind.i64 kl, AV.ints false IntKind.u8 ks,
     AV.int IntKind.i64 kq, AV.int IntKind.i64 kt]),
     ((45 : Nat), AV.int IntKind.i64 now), ((46 : Nat), AV.rs false (0 : Nat) ps),
     ((47 : Nat), AV.int IntKind.i64 i),
     ((48 : Nat),
     AV.gpr (0 : Nat)
     (Option.rec ((fun (_ : Unit) => default) ())
     (fun (val : Rec) => (fun (val : Rec) => (fun (x : Rec) => x) val) val) ps[i.toNat]?)
     (0 : Nat)),
     ((49 : Nat),
     AV.agg
     [AV.int IntKind.u32 (ps.getD i.toNat default).1, AV.bool (ps.getD i.toNat default).5,
     AV.int IntKind.i64 (ps.getD i.toNat default).2,
     AV.int IntKind.i64 (ps.getD i.toNat default).3,
     AV.int IntKind.i64 (ps.getD i.toNat default).4,
     AV.ints false IntKind.u8 (ps.getD i.toNat default).6]),
     ((50 : Nat),
     AV.tup
     [AV.agg
     [AV.int IntKind.i64 k'.n, AV.int IntKind.i64 k'.st, AV.int IntKind.u32 k'.a,
     AV.int IntKind.i64 k'.cmd, AV.int IntKind.i64 k'.len, AV.ints false IntKind.u8 k'.s,
     AV.int IntKind.i64 k'.q, AV.int IntKind.i64 k'.t],
     AV.agg
     [AV.ownf (50 : Nat), AV.bool o'.dl, AV.ints false IntKind.u8 o'.ms, AV.bool o'.cn]]),
     ((51 : Nat),
     AV.agg
     [AV.int IntKind.i64 k'.n, AV.int IntKind.i64 k'.st, AV.int IntKind.u32 k'.a,
     AV.int IntKind.i64 k'.cmd, AV.int IntKind.i64 k'.len, AV.ints false IntKind.u8 k'.s,
     AV.int IntKind.i64 k'.q, AV.int IntKind.i64 k'.t]),
     ((52 : Nat),
     AV.agg [AV.ownf (50 : Nat), AV.bool o'.dl, AV.ints false IntKind.u8 o'.ms, AV.bool o'.cn])]
     [((7 : Nat),
     AV.box (57 : Nat)
     [AV.int IntKind.i64 kn, AV.int IntKind.i64 kst, AV.int IntKind.u32 ka,
     AV.int IntKind.i64 kc, AV.int IntKind.i64 kl, AV.ints false IntKind.u8 ks,
     AV.int IntKind.i64 kq, AV.int IntKind.i64 kt]),
     ((15 : Nat),
     AV.box (57 : Nat)
     [AV.int IntKind.i64 k'.n, AV.int IntKind.i64 k'.st, AV.int IntKind.u32 k'.a,
     AV.int IntKind.i64 k'.cmd, AV.int IntKind.i64 k'.len, AV.ints false IntKind.u8 k'.s,
     AV.int IntKind.i64 k'.q, AV.int IntKind.i64 k'.t]),
     ((16 : Nat),
     AV.box (59 : Nat)
     [AV.ownf (50 : Nat), AV.bool o'.dl, AV.ints false IntKind.u8 o'.ms, AV.bool o'.cn]),
     ((36 : Nat), AV.box (83 : Nat) [AV.ints false IntKind.i64 l, AV.int IntKind.i64 n]),
     ((50 : Nat), AV.linr (38 : Nat) (0 : Nat) o'.ps)])) ∧
     ∀ (K : AS → Prop),
     chk (decide (ks.length ≤ (100000 : Nat) ∧ (-1000000 : Int) ≤ kl ∧ kl ≤ (1000000 : Int)))
     (∀ (k' : Lk) (o' : Ou),
     recvL (Lk.mk kn kst ka kc kl ks kq kt) now
     (Rec.mk (ps.getD i.toNat default).a (ps.getD i.toNat default).b (ps.getD i.toNat default).c
     (ps.getD i.toNat default).d (ps.getD i.toNat default).f (ps.getD i.toNat default).s) =
     (k', o') →
     K
     (AS.mk
     [((7 : Nat), AV.ptr (7 : Nat) (0 : Nat) (0 : Nat)), ((9 : Nat), AV.ints false IntKind.u8 b),
     ((10 : Nat), AV.rs false (0 : Nat) ps),
     ((12 : Nat), AV.ptr (36 : Nat) (0 : Nat) (0 : Nat)), ((13 : Nat), AV.int IntKind.i64 now),
     ((14 : Nat), AV.int IntKind.i64 i), ((15 : Nat), AV.ptr (15 : Nat) (0 : Nat) (0 : Nat)),
     ((16 : Nat), AV.ptr (16 : Nat) (0 : Nat) (0 : Nat)), ((37 : Nat), AV.int IntKind.i64 i),
     ((38 : Nat), AV.rs false (0 : Nat) ps),
     ((39 : Nat), AV.int IntKind.i64 (@Nat.cast Int _ ps.length)), ((40 : Nat), AV.bool true),
     ((43 : Nat),
     AV.tup
     [AV.agg
     [AV.int IntKind.i64 k'.n, AV.int IntKind.i64 k'.st, AV.int IntKind.u32 k'.a,
     AV.int IntKind.i64 k'.cmd, AV.int IntKind.i64 k'.len,
     AV.ints false IntKind.u8 k'.s, AV.int IntKind.i64 k'.q,
     AV.int IntKind.i64 k'.t],
     AV.agg
     [AV.ownf (50 : Nat), AV.bool o'.dl, AV.ints false IntKind.u8 o'.ms,
     AV.bool o'.cn]]),
     ((44 : Nat),
     AV.agg
     [AV.int IntKind.i64 kn, AV.int IntKind.i64 kst, AV.int IntKind.u32 ka,
     AV.int IntKind.i64 kc, AV.int IntKind.i64 kl, AV.ints false IntKind.u8 ks,
     AV.int IntKind.i64 kq, AV.int IntKind.i64 kt]),
     ((45 : Nat), AV.int IntKind.i64 now), ((46 : Nat), AV.rs false (0 : Nat) ps),
     ((47 : Nat), AV.int IntKind.i64 i),
     ((48 : Nat),
     AV.gpr (0 : Nat)
     (Option.rec ((fun (_ : Unit) => default) ())
     (fun (val : Rec) => (fun (val : Rec) => (fun (x : Rec) => x) val) val) ps[i.toNat]?)
     (0 : Nat)),
     ((49 : Nat),
     AV.agg
     [AV.int IntKind.u32 (ps.getD i.toNat default).1, AV.bool (ps.getD i.toNat default).5,
     AV.int IntKind.i64 (ps.getD i.toNat default).2,
     AV.int IntKind.i64 (ps.getD i.toNat default).3,
     AV.int IntKind.i64 (ps.getD i.toNat default).4,
     AV.ints false IntKind.u8 (ps.getD i.toNat default).6]),
     ((50 : Nat),
     AV.tup
     [AV.agg
     [AV.int IntKind.i64 k'.n, AV.int IntKind.i64 k'.st, AV.int IntKind.u32 k'.a,
     AV.int IntKind.i64 k'.cmd, AV.int IntKind.i64 k'.len,
     AV.ints false IntKind.u8 k'.s, AV.int IntKind.i64 k'.q,
     AV.int IntKind.i64 k'.t],
     AV.agg
     [AV.ownf (50 : Nat), AV.bool o'.dl, AV.ints false IntKind.u8 o'.ms,
     AV.bool o'.cn]]),
     ((51 : Nat),
     AV.agg
     [AV.int IntKind.i64 k'.n, AV.int IntKind.i64 k'.st, AV.int IntKind.u32 k'.a,
     AV.int IntKind.i64 k'.cmd, AV.int IntKind.i64 k'.len, AV.ints false IntKind.u8 k'.s,
     AV.int IntKind.i64 k'.q, AV.int IntKind.i64 k'.t]),
     ((52 : Nat),
     AV.agg
     [AV.ownf (50 : Nat), AV.bool o'.dl, AV.ints false IntKind.u8 o'.ms, AV.bool o'.cn])]
     [((7 : Nat),
     AV.box (57 : Nat)
     [AV.int IntKind.i64 kn, AV.int IntKind.i64 kst, AV.int IntKind.u32 ka,
     AV.int IntKind.i64 kc, AV.int IntKind.i64 kl, AV.ints false IntKind.u8 ks,
     AV.int IntKind.i64 kq, AV.int IntKind.i64 kt]),
     ((15 : Nat),
     AV.box (57 : Nat)
     [AV.int IntKind.i64 k'.n, AV.int IntKind.i64 k'.st, AV.int IntKind.u32 k'.a,
     AV.int IntKind.i64 k'.cmd, AV.int IntKind.i64 k'.len, AV.ints false IntKind.u8 k'.s,
     AV.int IntKind.i64 k'.q, AV.int IntKind.i64 k'.t]),
     ((16 : Nat),
     AV.box (59 : Nat)
     [AV.ownf (50 : Nat), AV.bool o'.dl, AV.ints false IntKind.u8 o'.ms, AV.bool o'.cn]),
     ((36 : Nat), AV.box (83 : Nat) [AV.ints false IntKind.i64 l, AV.int IntKind.i64 n]),
     ((50 : Nat), AV.linr (38 : Nat) (0 : Nat) o'.ps)])) →
     chk (decide (ks.length ≤ (100000 : Nat) ∧ (-1000000 : Int) ≤ kl ∧ kl ≤ (1000000 : Int)))
     (∀ (k' : Lk) (o' : Ou),
     recvL (Lk.mk kn kst ka kc kl ks kq kt) now
     (Rec.mk (ps.getD i.toNat default).a (ps.getD i.toNat default).b (ps.getD i.toNat default).c
     (ps.getD i.toNat default).d (ps.getD i.toNat default).f (ps.getD i.toNat default).s) =
     (k', o') →
     K
     (AS.mk
     [((7 : Nat), AV.ptr (7 : Nat) (0 : Nat) (0 : Nat)), ((9 : Nat), AV.ints false IntKind.u8 b),
     ((10 : Nat), AV.rs false (0 : Nat) ps),
     ((12 : Nat), AV.ptr (36 : Nat) (0 : Nat) (0 : Nat)), ((13 : Nat), AV.int IntKind.i64 now),
     ((14 : Nat), AV.int IntKind.i64 i), ((15 : Nat), AV.ptr (15 : Nat) (0 : Nat) (0 : Nat)),
     ((16 : Nat), AV.ptr (16 : Nat) (0 : Nat) (0 : Nat)), ((37 : Nat), AV.int IntKind.i64 i),
     ((38 : Nat), AV.rs false (0 : Nat) ps),
     ((39 : Nat), AV.int IntKind.i64 (@Nat.cast Int _ ps.length)), ((40 : Nat), AV.bool true),
     ((43 : Nat),
     AV.tup
     [AV.agg
     [AV.int IntKind.i64 k'.n, AV.int IntKind.i64 k'.st, AV.int IntKind.u32 k'.a,
     AV.int IntKind.i64 k'.cmd, AV.int IntKind.i64 k'.len,
     AV.ints false IntKind.u8 k'.s, AV.int IntKind.i64 k'.q,
     AV.int IntKind.i64 k'.t],
     AV.agg
     [AV.ownf (50 : Nat), AV.bool o'.dl, AV.ints false IntKind.u8 o'.ms,
     AV.bool o'.cn]]),
     ((44 : Nat),
     AV.agg
     [AV.int IntKind.i64 kn, AV.int IntKind.i64 kst, AV.int IntKind.u32 ka,
     AV.int IntKind.i64 kc, AV.int IntKind.i64 kl, AV.ints false IntKind.u8 ks,
     AV.int IntKind.i64 kq, AV.int IntKind.i64 kt]),
     ((45 : Nat), AV.int IntKind.i64 now), ((46 : Nat), AV.rs false (0 : Nat) ps),
     ((47 : Nat), AV.int IntKind.i64 i),
     ((48 : Nat),
     AV.gpr (0 : Nat)
     (Option.rec ((fun (_ : Unit) => default) ())
     (fun (val : Rec) => (fun (val : Rec) => (fun (x : Rec) => x) val) val) ps[i.toNat]?)
     (0 : Nat)),
     ((49 : Nat),
     AV.agg
     [AV.int IntKind.u32 (ps.getD i.toNat default).1, AV.bool (ps.getD i.toNat default).5,
     AV.int IntKind.i64 (ps.getD i.toNat default).2,
     AV.int IntKind.i64 (ps.getD i.toNat default).3,
     AV.int IntKind.i64 (ps.getD i.toNat default).4,
     AV.ints false IntKind.u8 (ps.getD i.toNat default).6]),
     ((50 : Nat),
     AV.tup
     [AV.agg
     [AV.int IntKind.i64 k'.n, AV.int IntKind.i64 k'.st, AV.int IntKind.u32 k'.a,
     AV.int IntKind.i64 k'.cmd, AV.int IntKind.i64 k'.len,
     AV.ints false IntKind.u8 k'.s, AV.int IntKind.i64 k'.q,
     AV.int IntKind.i64 k'.t],
     AV.agg
     [AV.ownf (50 : Nat), AV.bool o'.dl, AV.ints false IntKind.u8 o'.ms,
     AV.bool o'.cn]]),
     ((51 : Nat),
     AV.agg
     [AV.int IntKind.i64 k'.n, AV.int IntKind.i64 k'.st, AV.int IntKind.u32 k'.a,
     AV.int IntKind.i64 k'.cmd, AV.int IntKind.i64 k'.len, AV.ints false IntKind.u8 k'.s,
     AV.int IntKind.i64 k'.q, AV.int IntKind.i64 k'.t]),
     ((52 : Nat),
     AV.agg
     [AV.ownf (50 : Nat), AV.bool o'.dl, AV.ints false IntKind.u8 o'.ms, AV.bool o'.cn])]
     [((7 : Nat),
     AV.box (57 : Nat)
     [AV.int IntKind.i64 kn, AV.int IntKind.i64 kst, AV.int IntKind.u32 ka,
     AV.int IntKind.i64 kc, AV.int IntKind.i64 kl, AV.ints false IntKind.u8 ks,
     AV.int IntKind.i64 kq, AV.int IntKind.i64 kt]),
     ((15 : Nat),
     AV.box (57 : Nat)
     [AV.int IntKind.i64 k'.n, AV.int IntKind.i64 k'.st, AV.int IntKind.u32 k'.a,
     AV.int IntKind.i64 k'.cmd, AV.int IntKind.i64 k'.len, AV.ints false IntKind.u8 k'.s,
     AV.int IntKind.i64 k'.q, AV.int IntKind.i64 k'.t]),
     ((16 : Nat),
     AV.box (59 : Nat)
     [AV.ownf (50 : Nat), AV.bool o'.dl, AV.ints false IntKind.u8 o'.ms, AV.bool o'.cn]),
     ((36 : Nat), AV.box (83 : Nat) [AV.ints false IntKind.i64 l, AV.int IntKind.i64 n]),
     ((50 : Nat), AV.linr (38 : Nat) (0 : Nat) o'.ps)]))) ∧
     ∀ (K : AS → Prop),
     (chk (decide (ks.length ≤ (100000 : Nat) ∧ (-1000000 : Int) ≤ kl ∧ kl ≤ (1000000 : Int)))
     (∀ (k' : Lk) (o' : Ou),
     recvL (Lk.mk kn kst ka kc kl ks kq kt) now
     (Rec.mk (ps.getD i.toNat default).a (ps.getD i.toNat default).b (ps.getD i.toNat default).c
     (ps.getD i.toNat default).d (ps.getD i.toNat default).f (ps.getD i.toNat default).s) =
     (k', o') →
     K
     (AS.mk
     [((7 : Nat), AV.ptr (7 : Nat) (0 : Nat) (0 : Nat)), ((9 : Nat), AV.ints false IntKind.u8 b),
     ((10 : Nat), AV.rs false (0 : Nat) ps),
     ((12 : Nat), AV.ptr (36 : Nat) (0 : Nat) (0 : Nat)), ((13 : Nat), AV.int IntKind.i64 now),
     ((14 : Nat), AV.int IntKind.i64 i), ((15 : Nat), AV.ptr (15 : Nat) (0 : Nat) (0 : Nat)),
     ((16 : Nat), AV.ptr (16 : Nat) (0 : Nat) (0 : Nat)), ((37 : Nat), AV.int IntKind.i64 i),
     ((38 : Nat), AV.rs false (0 : Nat) ps),
     ((39 : Nat), AV.int IntKind.i64 (@Nat.cast Int _ ps.length)), ((40 : Nat), AV.bool true),
     ((43 : Nat),
     AV.tup
     [AV.agg
     [AV.int IntKind.i64 k'.n, AV.int IntKind.i64 k'.st, AV.int IntKind.u32 k'.a,
     AV.int IntKind.i64 k'.cmd, AV.int IntKind.i64 k'.len,
     AV.ints false IntKind.u8 k'.s, AV.int IntKind.i64 k'.q,
     AV.int IntKind.i64 k'.t],
     AV.agg
     [AV.ownf (50 : Nat), AV.bool o'.dl, AV.ints false IntKind.u8 o'.ms,
     AV.bool o'.cn]]),
     ((44 : Nat),
     AV.agg
     [AV.int IntKind.i64 kn, AV.int IntKind.i64 kst, AV.int IntKind.u32 ka,
     AV.int IntKind.i64 kc, AV.int IntKind.i64 kl, AV.ints false IntKind.u8 ks,
     AV.int IntKind.i64 kq, AV.int IntKind.i64 kt]),
     ((45 : Nat), AV.int IntKind.i64 now), ((46 : Nat), AV.rs false (0 : Nat) ps),
     ((47 : Nat), AV.int IntKind.i64 i),
     ((48 : Nat),
     AV.gpr (0 : Nat)
     (Option.rec ((fun (_ : Unit) => default) ())
     (fun (val : Rec) => (fun (val : Rec) => (fun (x : Rec) => x) val) val) ps[i.toNat]?)
     (0 : Nat)),
     ((49 : Nat),
     AV.agg
     [AV.int IntKind.u32 (ps.getD i.toNat default).1, AV.bool (ps.getD i.toNat default).5,
     AV.int IntKind.i64 (ps.getD i.toNat default).2,
     AV.int IntKind.i64 (ps.getD i.toNat default).3,
     AV.int IntKind.i64 (ps.getD i.toNat default).4,
     AV.ints false IntKind.u8 (ps.getD i.toNat default).6]),
     ((50 : Nat),
     AV.tup
     [AV.agg
     [AV.int IntKind.i64 k'.n, AV.int IntKind.i64 k'.st, AV.int IntKind.u32 k'.a,
     AV.int IntKind.i64 k'.cmd, AV.int IntKind.i64 k'.len,
     AV.ints false IntKind.u8 k'.s, AV.int IntKind.i64 k'.q,
     AV.int IntKind.i64 k'.t],
     AV.agg
     [AV.ownf (50 : Nat), AV.bool o'.dl, AV.ints false IntKind.u8 o'.ms,
     AV.bool o'.cn]]),
     ((51 : Nat),
     AV.agg
     [AV.int IntKind.i64 k'.n, AV.int IntKind.i64 k'.st, AV.int IntKind.u32 k'.a,
     AV.int IntKind.i64 k'.cmd, AV.int IntKind.i64 k'.len, AV.ints false IntKind.u8 k'.s,
     AV.int IntKind.i64 k'.q, AV.int IntKind.i64 k'.t]),
     ((52 : Nat),
     AV.agg
     [AV.ownf (50 : Nat), AV.bool o'.dl, AV.ints false IntKind.u8 o'.ms, AV.bool o'.cn])]
     [((7 : Nat),
     AV.box (57 : Nat)
     [AV.int IntKind.i64 kn, AV.int IntKind.i64 kst, AV.int IntKind.u32 ka,
     AV.int IntKind.i64 kc, AV.int IntKind.i64 kl, AV.ints false IntKind.u8 ks,
     AV.int IntKind.i64 kq, AV.int IntKind.i64 kt]),
     ((15 : Nat),
     AV.box (57 : Nat)
     [AV.int IntKind.i64 k'.n, AV.int IntKind.i64 k'.st, AV.int IntKind.u32 k'.a,
     AV.int IntKind.i64 k'.cmd, AV.int IntKind.i64 k'.len, AV.ints false IntKind.u8 k'.s,
     AV.int IntKind.i64 k'.q, AV.int IntKind.i64 k'.t]),
     ((16 : Nat),
     AV.box (59 : Nat)
     [AV.ownf (50 : Nat), AV.bool o'.dl, AV.ints false IntKind.u8 o'.ms, AV.bool o'.cn]),
     ((36 : Nat), AV.box (83 : Nat) [AV.ints false IntKind.i64 l, AV.int IntKind.i64 n]),
     ((50 : Nat), AV.linr (38 : Nat) (0 : Nat) o'.ps)])) ∧
     ∀ (K : AS → Prop),
     chk (decide (ks.length ≤ (100000 : Nat) ∧ (-1000000 : Int) ≤ kl ∧ kl ≤ (1000000 : Int)))
     (∀ (k' : Lk) (o' : Ou),
     recvL (Lk.mk kn kst ka kc kl ks kq kt) now
     (Rec.mk (ps.getD i.toNat default).a (ps.getD i.toNat default).b
     (ps.getD i.toNat default).c (ps.getD i.toNat default).d (ps.getD i.toNat default).f
     (ps.getD i.toNat default).s) =
     (k', o') →
     K
     (AS.mk
     [((7 : Nat), AV.ptr (7 : Nat) (0 : Nat) (0 : Nat)),
     ((9 : Nat), AV.ints false IntKind.u8 b), ((10 : Nat), AV.rs false (0 : Nat) ps),
     ((12 : Nat), AV.ptr (36 : Nat) (0 : Nat) (0 : Nat)),
     ((13 : Nat), AV.int IntKind.i64 now), ((14 : Nat), AV.int IntKind.i64 i),
     ((15 : Nat), AV.ptr (15 : Nat) (0 : Nat) (0 : Nat)),
     ((16 : Nat), AV.ptr (16 : Nat) (0 : Nat) (0 : Nat)),
     ((37 : Nat), AV.int IntKind.i64 i), ((38 : Nat), AV.rs false (0 : Nat) ps),
     ((39 : Nat), AV.int IntKind.i64 (@Nat.cast Int _ ps.length)), ((40 : Nat), AV.bool true),
     ((43 : Nat),
     AV.tup
     [AV.agg
     [AV.int IntKind.i64 k'.n, AV.int IntKind.i64 k'.st, AV.int IntKind.u32 k'.a,
     AV.int IntKind.i64 k'.cmd, AV.int IntKind.i64 k'.len,
     AV.ints false IntKind.u8 k'.s, AV.int IntKind.i64 k'.q,
     AV.int IntKind.i64 k'.t],
     AV.agg
     [AV.ownf (50 : Nat), AV.bool o'.dl, AV.ints false IntKind.u8 o'.ms,
     AV.bool o'.cn]]),
     ((44 : Nat),
     AV.agg
     [AV.int IntKind.i64 kn, AV.int IntKind.i64 kst, AV.int IntKind.u32 ka,
     AV.int IntKind.i64 kc, AV.int IntKind.i64 kl, AV.ints false IntKind.u8 ks,
     AV.int IntKind.i64 kq, AV.int IntKind.i64 kt]),
     ((45 : Nat), AV.int IntKind.i64 now), ((46 : Nat), AV.rs false (0 : Nat) ps),
     ((47 : Nat), AV.int IntKind.i64 i),
     ((48 : Nat),
     AV.gpr (0 : Nat)
     (Option.rec ((fun (_ : Unit) => default) ())
     (fun (val : Rec) => (fun (val : Rec) => (fun (x : Rec) => x) val) val)
     ps[i.toNat]?)
     (0 : Nat)),
     ((49 : Nat),
     AV.agg
     [AV.int IntKind.u32 (ps.getD i.toNat default).1,
     AV.bool (ps.getD i.toNat default).5,
     AV.int IntKind.i64 (ps.getD i.toNat default).2,
     AV.int IntKind.i64 (ps.getD i.toNat default).3,
     AV.int IntKind.i64 (ps.getD i.toNat default).4,
     AV.ints false IntKind.u8 (ps.getD i.toNat default).6]),
     ((50 : Nat),
     AV.tup
     [AV.agg
     [AV.int IntKind.i64 k'.n, AV.int IntKind.i64 k'.st, AV.int IntKind.u32 k'.a,
     AV.int IntKind.i64 k'.cmd, AV.int IntKind.i64 k'.len,
     AV.ints false IntKind.u8 k'.s, AV.int IntKind.i64 k'.q,
     AV.int IntKind.i64 k'.t],
     AV.agg
     [AV.ownf (50 : Nat), AV.bool o'.dl, AV.ints false IntKind.u8 o'.ms,
     AV.bool o'.cn]]),
     ((51 : Nat),
     AV.agg
     [AV.int IntKind.i64 k'.n, AV.int IntKind.i64 k'.st, AV.int IntKind.u32 k'.a,
     AV.int IntKind.i64 k'.cmd, AV.int IntKind.i64 k'.len,
     AV.ints false IntKind.u8 k'.s, AV.int IntKind.i64 k'.q,
     AV.int IntKind.i64 k'.t]),
     ((52 : Nat),
     AV.agg
     [AV.ownf (50 : Nat), AV.bool o'.dl, AV.ints false IntKind.u8 o'.ms,
     AV.bool o'.cn])]
     [((7 : Nat),
     AV.box (57 : Nat)
     [AV.int IntKind.i64 kn, AV.int IntKind.i64 kst, AV.int IntKind.u32 ka,
     AV.int IntKind.i64 kc, AV.int IntKind.i64 kl, AV.ints false IntKind.u8 ks,
     AV.int IntKind.i64 kq, AV.int IntKind.i64 kt]),
     ((15 : Nat),
     AV.box (57 : Nat)
     [AV.int IntKind.i64 k'.n, AV.int IntKind.i64 k'.st, AV.int IntKind.u32 k'.a,
     AV.int IntKind.i64 k'.cmd, AV.int IntKind.i64 k'.len,
     AV.ints false IntKind.u8 k'.s, AV.int IntKind.i64 k'.q,
     AV.int IntKind.i64 k'.t]),
     ((16 : Nat),
     AV.box (59 : Nat)
     [AV.ownf (50 : Nat), AV.bool o'.dl, AV.ints false IntKind.u8 o'.ms,
     AV.bool o'.cn]),
     ((36 : Nat), AV.box (83 : Nat) [AV.ints false IntKind.i64 l, AV.int IntKind.i64 n]),
     ((50 : Nat), AV.linr (38 : Nat) (0 : Nat) o'.ps)])) →
     chk (decide (ks.length ≤ (100000 : Nat) ∧ (-1000000 : Int) ≤ kl ∧ kl ≤ (1000000 : Int)))
     (∀ (k' : Lk) (o' : Ou),
     recvL (Lk.mk kn kst ka kc kl ks kq kt) now
     (Rec.mk (ps.getD i.toNat default).a (ps.getD i.toNat default).b
     (ps.getD i.toNat default).c (ps.getD i.toNat default).d (ps.getD i.toNat default).f
     (ps.getD i.toNat default).s) =
     (k', o') →
     K
     (AS.mk
     [((7 : Nat), AV.ptr (7 : Nat) (0 : Nat) (0 : Nat)),
     ((9 : Nat), AV.ints false IntKind.u8 b), ((10 : Nat), AV.rs false (0 : Nat) ps),
     ((12 : Nat), AV.ptr (36 : Nat) (0 : Nat) (0 : Nat)),
     ((13 : Nat), AV.int IntKind.i64 now), ((14 : Nat), AV.int IntKind.i64 i),
     ((15 : Nat), AV.ptr (15 : Nat) (0 : Nat) (0 : Nat)),
     ((16 : Nat), AV.ptr (16 : Nat) (0 : Nat) (0 : Nat)),
     ((37 : Nat), AV.int IntKind.i64 i), ((38 : Nat), AV.rs false (0 : Nat) ps),
     ((39 : Nat), AV.int IntKind.i64 (@Nat.cast Int _ ps.length)), ((40 : Nat), AV.bool true),
     ((43 : Nat),
     AV.tup
     [AV.agg
     [AV.int IntKind.i64 k'.n, AV.int IntKind.i64 k'.st, AV.int IntKind.u32 k'.a,
     AV.int IntKind.i64 k'.cmd, AV.int IntKind.i64 k'.len,
     AV.ints false IntKind.u8 k'.s, AV.int IntKind.i64 k'.q,
     AV.int IntKind.i64 k'.t],
     AV.agg
     [AV.ownf (50 : Nat), AV.bool o'.dl, AV.ints false IntKind.u8 o'.ms,
     AV.bool o'.cn]]),
     ((44 : Nat),
     AV.agg
     [AV.int IntKind.i64 kn, AV.int IntKind.i64 kst, AV.int IntKind.u32 ka,
     AV.int IntKind.i64 kc, AV.int IntKind.i64 kl, AV.ints false IntKind.u8 ks,
     AV.int IntKind.i64 kq, AV.int IntKind.i64 kt]),
     ((45 : Nat), AV.int IntKind.i64 now), ((46 : Nat), AV.rs false (0 : Nat) ps),
     ((47 : Nat), AV.int IntKind.i64 i),
     ((48 : Nat),
     AV.gpr (0 : Nat)
     (Option.rec ((fun (_ : Unit) => default) ())
     (fun (val : Rec) => (fun (val : Rec) => (fun (x : Rec) => x) val) val)
     ps[i.toNat]?)
     (0 : Nat)),
     ((49 : Nat),
     AV.agg
     [AV.int IntKind.u32 (ps.getD i.toNat default).1,
     AV.bool (ps.getD i.toNat default).5,
     AV.int IntKind.i64 (ps.getD i.toNat default).2,
     AV.int IntKind.i64 (ps.getD i.toNat default).3,
     AV.int IntKind.i64 (ps.getD i.toNat default).4,
     AV.ints false IntKind.u8 (ps.getD i.toNat default).6]),
     ((50 : Nat),
     AV.tup
     [AV.agg
     [AV.int IntKind.i64 k'.n, AV.int IntKind.i64 k'.st, AV.int IntKind.u32 k'.a,
     AV.int IntKind.i64 k'.cmd, AV.int IntKind.i64 k'.len,
     AV.ints false IntKind.u8 k'.s, AV.int IntKind.i64 k'.q,
     AV.int IntKind.i64 k'.t],
     AV.agg
     [AV.ownf (50 : Nat), AV.bool o'.dl, AV.ints false IntKind.u8 o'.ms,
     AV.bool o'.cn]]),
     ((51 : Nat),
     AV.agg
     [AV.int IntKind.i64 k'.n, AV.int IntKind.i64 k'.st, AV.int IntKind.u32 k'.a,
     AV.int IntKind.i64 k'.cmd, AV.int IntKind.i64 k'.len,
     AV.ints false IntKind.u8 k'.s, AV.int IntKind.i64 k'.q,
     AV.int IntKind.i64 k'.t]),
     ((52 : Nat),
     AV.agg
     [AV.ownf (50 : Nat), AV.bool o'.dl, AV.ints false IntKind.u8 o'.ms,
     AV.bool o'.cn])]
     [((7 : Nat),
     AV.box (57 : Nat)
     [AV.int IntKind.i64 kn, AV.int IntKind.i64 kst, AV.int IntKind.u32 ka,
     AV.int IntKind.i64 kc, AV.int IntKind.i64 kl, AV.ints false IntKind.u8 ks,
     AV.int IntKind.i64 kq, AV.int IntKind.i64 kt]),
     ((15 : Nat),
     AV.box (57 : Nat)
     [AV.int IntKind.i64 k'.n, AV.int IntKind.i64 k'.st, AV.int IntKind.u32 k'.a,
     AV.int IntKind.i64 k'.cmd, AV.int IntKind.i64 k'.len,
     AV.ints false IntKind.u8 k'.s, AV.int IntKind.i64 k'.q,
     AV.int IntKind.i64 k'.t]),
     ((16 : Nat),
     AV.box (59 : Nat)
     [AV.ownf (50 : Nat), AV.bool o'.dl, AV.ints false IntKind.u8 o'.ms,
     AV.bool o'.cn]),
     ((36 : Nat), AV.box (83 : Nat) [AV.ints false IntKind.i64 l, AV.int IntKind.i64 n]),
     ((50 : Nat), AV.linr (38 : Nat) (0 : Nat) o'.ps)]))) →
     chk (decide (ks.length ≤ (100000 : Nat) ∧ (-1000000 : Int) ≤ kl ∧ kl ≤ (1000000 : Int)))
     (∀ (k' : Lk) (o' : Ou),
     recvL (Lk.mk kn kst ka kc kl ks kq kt) now
     (Rec.mk (ps.getD i.toNat default).a (ps.getD i.toNat default).b (ps.getD i.toNat default).c
     (ps.getD i.toNat default).d (ps.getD i.toNat default).f (ps.getD i.toNat default).s) =
     (k', o') →
     K
     (AS.mk
     [((7 : Nat), AV.ptr (7 : Nat) (0 : Nat) (0 : Nat)), ((9 : Nat), AV.ints false IntKind.u8 b),
     ((10 : Nat), AV.rs false (0 : Nat) ps),
     ((12 : Nat), AV.ptr (36 : Nat) (0 : Nat) (0 : Nat)), ((13 : Nat), AV.int IntKind.i64 now),
     ((14 : Nat), AV.int IntKind.i64 i), ((15 : Nat), AV.ptr (15 : Nat) (0 : Nat) (0 : Nat)),
     ((16 : Nat), AV.ptr (16 : Nat) (0 : Nat) (0 : Nat)), ((37 : Nat), AV.int IntKind.i64 i),
     ((38 : Nat), AV.rs false (0 : Nat) ps),
     ((39 : Nat), AV.int IntKind.i64 (@Nat.cast Int _ ps.length)), ((40 : Nat), AV.bool true),
     ((43 : Nat),
     AV.tup
     [AV.agg
     [AV.int IntKind.i64 k'.n, AV.int IntKind.i64 k'.st, AV.int IntKind.u32 k'.a,
     AV.int IntKind.i64 k'.cmd, AV.int IntKind.i64 k'.len,
     AV.ints false IntKind.u8 k'.s, AV.int IntKind.i64 k'.q,
     AV.int IntKind.i64 k'.t],
     AV.agg
     [AV.ownf (50 : Nat), AV.bool o'.dl, AV.ints false IntKind.u8 o'.ms,
     AV.bool o'.cn]]),
     ((44 : Nat),
     AV.agg
     [AV.int IntKind.i64 kn, AV.int IntKind.i64 kst, AV.int IntKind.u32 ka,
     AV.int IntKind.i64 kc, AV.int IntKind.i64 kl, AV.ints false IntKind.u8 ks,
     AV.int IntKind.i64 kq, AV.int IntKind.i64 kt]),
     ((45 : Nat), AV.int IntKind.i64 now), ((46 : Nat), AV.rs false (0 : Nat) ps),
     ((47 : Nat), AV.int IntKind.i64 i),
     ((48 : Nat),
     AV.gpr (0 : Nat)
     (Option.rec ((fun (_ : Unit) => default) ())
     (fun (val : Rec) => (fun (val : Rec) => (fun (x : Rec) => x) val) val) ps[i.toNat]?)
     (0 : Nat)),
     ((49 : Nat),
     AV.agg
     [AV.int IntKind.u32 (ps.getD i.toNat default).1, AV.bool (ps.getD i.toNat default).5,
     AV.int IntKind.i64 (ps.getD i.toNat default).2,
     AV.int IntKind.i64 (ps.getD i.toNat default).3,
     AV.int IntKind.i64 (ps.getD i.toNat default).4,
     AV.ints false IntKind.u8 (ps.getD i.toNat default).6]),
     ((50 : Nat),
     AV.tup
     [AV.agg
     [AV.int IntKind.i64 k'.n, AV.int IntKind.i64 k'.st, AV.int IntKind.u32 k'.a,
     AV.int IntKind.i64 k'.cmd, AV.int IntKind.i64 k'.len,
     AV.ints false IntKind.u8 k'.s, AV.int IntKind.i64 k'.q,
     AV.int IntKind.i64 k'.t],
     AV.agg
     [AV.ownf (50 : Nat), AV.bool o'.dl, AV.ints false IntKind.u8 o'.ms,
     AV.bool o'.cn]]),
     ((51 : Nat),
     AV.agg
     [AV.int IntKind.i64 k'.n, AV.int IntKind.i64 k'.st, AV.int IntKind.u32 k'.a,
     AV.int IntKind.i64 k'.cmd, AV.int IntKind.i64 k'.len, AV.ints false IntKind.u8 k'.s,
     AV.int IntKind.i64 k'.q, AV.int IntKind.i64 k'.t]),
     ((52 : Nat),
     AV.agg
     [AV.ownf (50 : Nat), AV.bool o'.dl, AV.ints false IntKind.u8 o'.ms, AV.bool o'.cn])]
     [((7 : Nat),
     AV.box (57 : Nat)
     [AV.int IntKind.i64 kn, AV.int IntKind.i64 kst, AV.int IntKind.u32 ka,
     AV.int IntKind.i64 kc, AV.int IntKind.i64 kl, AV.ints false IntKind.u8 ks,
     AV.int IntKind.i64 kq, AV.int IntKind.i64 kt]),
     ((15 : Nat),
     AV.box (57 : Nat)
     [AV.int IntKind.i64 k'.n, AV.int IntKind.i64 k'.st, AV.int IntKind.u32 k'.a,
     AV.int IntKind.i64 k'.cmd, AV.int IntKind.i64 k'.len, AV.ints false IntKind.u8 k'.s,
     AV.int IntKind.i64 k'.q, AV.int IntKind.i64 k'.t]),
     ((16 : Nat),
     AV.box (59 : Nat)
     [AV.ownf (50 : Nat), AV.bool o'.dl, AV.ints false IntKind.u8 o'.ms, AV.bool o'.cn]),
     ((36 : Nat), AV.box (83 : Nat) [AV.ints false IntKind.i64 l, AV.int IntKind.i64 n]),
     ((50 : Nat), AV.linr (38 : Nat) (0 : Nat) o'.ps)])) ∧
     ∀ (K : AS → Prop),
     chk (decide (ks.length ≤ (100000 : Nat) ∧ (-1000000 : Int) ≤ kl ∧ kl ≤ (1000000 : Int)))
     (∀ (k' : Lk) (o' : Ou),
     recvL (Lk.mk kn kst ka kc kl ks kq kt) now
     (Rec.mk (ps.getD i.toNat default).a (ps.getD i.toNat default).b
     (ps.getD i.toNat default).c (ps.getD i.toNat default).d (ps.getD i.toNat default).f
     (ps.getD i.toNat default).s) =
     (k', o') →
     K
     (AS.mk
     [((7 : Nat), AV.ptr (7 : Nat) (0 : Nat) (0 : Nat)),
     ((9 : Nat), AV.ints false IntKind.u8 b), ((10 : Nat), AV.rs false (0 : Nat) ps),
     ((12 : Nat), AV.ptr (36 : Nat) (0 : Nat) (0 : Nat)),
     ((13 : Nat), AV.int IntKind.i64 now), ((14 : Nat), AV.int IntKind.i64 i),
     ((15 : Nat), AV.ptr (15 : Nat) (0 : Nat) (0 : Nat)),
     ((16 : Nat), AV.ptr (16 : Nat) (0 : Nat) (0 : Nat)),
     ((37 : Nat), AV.int IntKind.i64 i), ((38 : Nat), AV.rs false (0 : Nat) ps),
     ((39 : Nat), AV.int IntKind.i64 (@Nat.cast Int _ ps.length)), ((40 : Nat), AV.bool true),
     ((43 : Nat),
     AV.tup
     [AV.agg
     [AV.int IntKind.i64 k'.n, AV.int IntKind.i64 k'.st, AV.int IntKind.u32 k'.a,
     AV.int IntKind.i64 k'.cmd, AV.int IntKind.i64 k'.len,
     AV.ints false IntKind.u8 k'.s, AV.int IntKind.i64 k'.q,
     AV.int IntKind.i64 k'.t],
     AV.agg
     [AV.ownf (50 : Nat), AV.bool o'.dl, AV.ints false IntKind.u8 o'.ms,
     AV.bool o'.cn]]),
     ((44 : Nat),
     AV.agg
     [AV.int IntKind.i64 kn, AV.int IntKind.i64 kst, AV.int IntKind.u32 ka,
     AV.int IntKind.i64 kc, AV.int IntKind.i64 kl, AV.ints false IntKind.u8 ks,
     AV.int IntKind.i64 kq, AV.int IntKind.i64 kt]),
     ((45 : Nat), AV.int IntKind.i64 now), ((46 : Nat), AV.rs false (0 : Nat) ps),
     ((47 : Nat), AV.int IntKind.i64 i),
     ((48 : Nat),
     AV.gpr (0 : Nat)
     (Option.rec ((fun (_ : Unit) => default) ())
     (fun (val : Rec) => (fun (val : Rec) => (fun (x : Rec) => x) val) val)
     ps[i.toNat]?)
     (0 : Nat)),
     ((49 : Nat),
     AV.agg
     [AV.int IntKind.u32 (ps.getD i.toNat default).1,
     AV.bool (ps.getD i.toNat default).5,
     AV.int IntKind.i64 (ps.getD i.toNat default).2,
     AV.int IntKind.i64 (ps.getD i.toNat default).3,
     AV.int IntKind.i64 (ps.getD i.toNat default).4,
     AV.ints false IntKind.u8 (ps.getD i.toNat default).6]),
     ((50 : Nat),
     AV.tup
     [AV.agg
     [AV.int IntKind.i64 k'.n, AV.int IntKind.i64 k'.st, AV.int IntKind.u32 k'.a,
     AV.int IntKind.i64 k'.cmd, AV.int IntKind.i64 k'.len,
     AV.ints false IntKind.u8 k'.s, AV.int IntKind.i64 k'.q,
     AV.int IntKind.i64 k'.t],
     AV.agg
     [AV.ownf (50 : Nat), AV.bool o'.dl, AV.ints false IntKind.u8 o'.ms,
     AV.bool o'.cn]]),
     ((51 : Nat),
     AV.agg
     [AV.int IntKind.i64 k'.n, AV.int IntKind.i64 k'.st, AV.int IntKind.u32 k'.a,
     AV.int IntKind.i64 k'.cmd, AV.int IntKind.i64 k'.len,
     AV.ints false IntKind.u8 k'.s, AV.int IntKind.i64 k'.q,
     AV.int IntKind.i64 k'.t]),
     ((52 : Nat),
     AV.agg
     [AV.ownf (50 : Nat), AV.bool o'.dl, AV.ints false IntKind.u8 o'.ms,
     AV.bool o'.cn])]
     [((7 : Nat),
     AV.box (57 : Nat)
     [AV.int IntKind.i64 kn, AV.int IntKind.i64 kst, AV.int IntKind.u32 ka,
     AV.int IntKind.i64 kc, AV.int IntKind.i64 kl, AV.ints false IntKind.u8 ks,
     AV.int IntKind.i64 kq, AV.int IntKind.i64 kt]),
     ((15 : Nat),
     AV.box (57 : Nat)
     [AV.int IntKind.i64 k'.n, AV.int IntKind.i64 k'.st, AV.int IntKind.u32 k'.a,
     AV.int IntKind.i64 k'.cmd, AV.int IntKind.i64 k'.len,
     AV.ints false IntKind.u8 k'.s, AV.int IntKind.i64 k'.q,
     AV.int IntKind.i64 k'.t]),
     ((16 : Nat),
     AV.box (59 : Nat)
     [AV.ownf (50 : Nat), AV.bool o'.dl, AV.ints false IntKind.u8 o'.ms,
     AV.bool o'.cn]),
     ((36 : Nat), AV.box (83 : Nat) [AV.ints false IntKind.i64 l, AV.int IntKind.i64 n]),
     ((50 : Nat), AV.linr (38 : Nat) (0 : Nat) o'.ps)])) →
     chk (decide (ks.length ≤ (100000 : Nat) ∧ (-1000000 : Int) ≤ kl ∧ kl ≤ (1000000 : Int)))
     (∀ (k' : Lk) (o' : Ou),
     recvL (Lk.mk kn kst ka kc kl ks kq kt) now
     (Rec.mk (ps.getD i.toNat default).a (ps.getD i.toNat default).b
     (ps.getD i.toNat default).c (ps.getD i.toNat default).d (ps.getD i.toNat default).f
     (ps.getD i.toNat default).s) =
     (k', o') →
     K
     (AS.mk
     [((7 : Nat), AV.ptr (7 : Nat) (0 : Nat) (0 : Nat)),
     ((9 : Nat), AV.ints false IntKind.u8 b), ((10 : Nat), AV.rs false (0 : Nat) ps),
     ((12 : Nat), AV.ptr (36 : Nat) (0 : Nat) (0 : Nat)),
     ((13 : Nat), AV.int IntKind.i64 now), ((14 : Nat), AV.int IntKind.i64 i),
     ((15 : Nat), AV.ptr (15 : Nat) (0 : Nat) (0 : Nat)),
     ((16 : Nat), AV.ptr (16 : Nat) (0 : Nat) (0 : Nat)),
     ((37 : Nat), AV.int IntKind.i64 i), ((38 : Nat), AV.rs false (0 : Nat) ps),
     ((39 : Nat), AV.int IntKind.i64 (@Nat.cast Int _ ps.length)), ((40 : Nat), AV.bool true),
     ((43 : Nat),
     AV.tup
     [AV.agg
     [AV.int IntKind.i64 k'.n, AV.int IntKind.i64 k'.st, AV.int IntKind.u32 k'.a,
     AV.int IntKind.i64 k'.cmd, AV.int IntKind.i64 k'.len,
     AV.ints false IntKind.u8 k'.s, AV.int IntKind.i64 k'.q,
     AV.int IntKind.i64 k'.t],
     AV.agg
     [AV.ownf (50 : Nat), AV.bool o'.dl, AV.ints false IntKind.u8 o'.ms,
     AV.bool o'.cn]]),
     ((44 : Nat),
     AV.agg
     [AV.int IntKind.i64 kn, AV.int IntKind.i64 kst, AV.int IntKind.u32 ka,
     AV.int IntKind.i64 kc, AV.int IntKind.i64 kl, AV.ints false IntKind.u8 ks,
     AV.int IntKind.i64 kq, AV.int IntKind.i64 kt]),
     ((45 : Nat), AV.int IntKind.i64 now), ((46 : Nat), AV.rs false (0 : Nat) ps),
     ((47 : Nat), AV.int IntKind.i64 i),
     ((48 : Nat),
     AV.gpr (0 : Nat)
     (Option.rec ((fun (_ : Unit) => default) ())
     (fun (val : Rec) => (fun (val : Rec) => (fun (x : Rec) => x) val) val)
     ps[i.toNat]?)
     (0 : Nat)),
     ((49 : Nat),
     AV.agg
     [AV.int IntKind.u32 (ps.getD i.toNat default).1,
     AV.bool (ps.getD i.toNat default).5,
     AV.int IntKind.i64 (ps.getD i.toNat default).2,
     AV.int IntKind.i64 (ps.getD i.toNat default).3,
     AV.int IntKind.i64 (ps.getD i.toNat default).4,
     AV.ints false IntKind.u8 (ps.getD i.toNat default).6]),
     ((50 : Nat),
     AV.tup
     [AV.agg
     [AV.int IntKind.i64 k'.n, AV.int IntKind.i64 k'.st, AV.int IntKind.u32 k'.a,
     AV.int IntKind.i64 k'.cmd, AV.int IntKind.i64 k'.len,
     AV.ints false IntKind.u8 k'.s, AV.int IntKind.i64 k'.q,
     AV.int IntKind.i64 k'.t],
     AV.agg
     [AV.ownf (50 : Nat), AV.bool o'.dl, AV.ints false IntKind.u8 o'.ms,
     AV.bool o'.cn]]),
     ((51 : Nat),
     AV.agg
     [AV.int IntKind.i64 k'.n, AV.int IntKind.i64 k'.st, AV.int IntKind.u32 k'.a,
     AV.int IntKind.i64 k'.cmd, AV.int IntKind.i64 k'.len,
     AV.ints false IntKind.u8 k'.s, AV.int IntKind.i64 k'.q,
     AV.int IntKind.i64 k'.t]),
     ((52 : Nat),
     AV.agg
     [AV.ownf (50 : Nat), AV.bool o'.dl, AV.ints false IntKind.u8 o'.ms,
     AV.bool o'.cn])]
     [((7 : Nat),
     AV.box (57 : Nat)
     [AV.int IntKind.i64 kn, AV.int IntKind.i64 kst, AV.int IntKind.u32 ka,
     AV.int IntKind.i64 kc, AV.int IntKind.i64 kl, AV.ints false IntKind.u8 ks,
     AV.int IntKind.i64 kq, AV.int IntKind.i64 kt]),
     ((15 : Nat),
     AV.box (57 : Nat)
     [AV.int IntKind.i64 k'.n, AV.int IntKind.i64 k'.st, AV.int IntKind.u32 k'.a,
     AV.int IntKind.i64 k'.cmd, AV.int IntKind.i64 k'.len,
     AV.ints false IntKind.u8 k'.s, AV.int IntKind.i64 k'.q,
     AV.int IntKind.i64 k'.t]),
     ((16 : Nat),
     AV.box (59 : Nat)
     [AV.ownf (50 : Nat), AV.bool o'.dl, AV.ints false IntKind.u8 o'.ms,
     AV.bool o'.cn]),
     ((36 : Nat), AV.box (83 : Nat) [AV.ints false IntKind.i64 l, AV.int IntKind.i64 n]),
     ((50 : Nat), AV.linr (38 : Nat) (0 : Nat) o'.ps)]))))
     (k (Out.exit (0 : Nat))
     (AS.mk [((7 : Nat), AV.ptr (7 : Nat) (0 : Nat) (0 : Nat))]
     [((7 : Nat),
     AV.box (57 : Nat)
     [AV.int IntKind.i64 kn, AV.int IntKind.i64 kst, AV.int IntKind.u32 ka, AV.int IntKind.i64 kc,
     AV.int IntKind.i64 kl, AV.ints false IntKind.u8 ks, AV.int IntKind.i64 kq, AV.int IntKind.i64 kt])]))) := by kernel_rfl

theorem i12_9 (k : Out → AS → Prop) (fuel : Nat) : ∀ (now i n : Int) (b l : List Int) (ps : List Rec) (kn kst ka kc kl kq kt : Int) (ks : List Int), (ps.length - i).toNat < fuel → (0 ≤ i ∧ i ≤ ps.length ∧ ps.length ≤ 100 ∧ 0 ≤ n ∧ n ≤ l.length ∧ 0 ≤ now ∧ now ≤ 20 * i) → (DlvI b ps i now ⟨kn, kst, ka, kc, kl, ks, kq, kt⟩ ∧ ∀ t : Int, k (.exit 0) ⟨[(7, .ptr 7 0 0)], [(7, .box 57 [.int .i64 2, .int .i64 2, .int .u32 1, .int .i64 3, .int .i64 0, .ints false .u8 [], .int .i64 0, .int .i64 t])]⟩) → iterL (stepL c12_0 kp12_9 tr12_9 (loopAt Proofs.Try.f12 9)) k fuel ⟨[(7, .ptr 7 0 0), (9, .ints false .u8 b), (10, .rs false 0 ps), (12, .ptr 36 0 0), (13, .int .i64 now), (14, .int .i64 i)], [(7, .box 57 [.int .i64 kn, .int .i64 kst, .int .u32 ka, .int .i64 kc, .int .i64 kl, .ints false .u8 ks, .int .i64 kq, .int .i64 kt]), (36, .box 83 [.ints false .i64 l, .int .i64 n])]⟩ := by
  induction fuel with
  | zero => intro now i n b l ps kn kst ka kc kl kq kt ks hm; omega
  | succ fuel ih =>
    intro now i n b l ps kn kst ka kc kl kq kt ks hm hp hk
    simp only [iterL]
    rw [q12_9]
    dsimp only
    obtain ⟨p1, p2, p3, p4, p5, p6, p7⟩ := hp
    obtain ⟨⟨he, hps, hs, hz⟩, hk⟩ := hk
    subst hps
    refine br_dec (fun hc => ?_) (fun hc => ?_)
    · have hb4 : b.length ≤ 4096 := by
        unfold splitE at he
        (repeat' split at he) <;> omega
      have hi : i.toNat < (splitL 1 3 b).length := by omega
      have hg := split_get' 1 3 b he i.toNat hi
      have hD := hs hc
      have hsm := dinv_small hD hb4
      have hr := recv_dlv b he i.toNat hi now _ hD p6 (by omega)
      rw [← hg] at hr
      have a0 : 0 ≤ n ∧ n ≤ l.length := ⟨p4, p5⟩
      have a1 := nextN_rng a0
      have a2 := nextN_rng a1
      have a3 := nextN_rng a2
      have r0 := nextR_rng l n 21 (by omega)
      have r1 := nextR_rng l (nextN l n) 21 (by omega)
      have r2 := nextR_rng l (nextN l (nextN l n)) 21 (by omega)
      dsimp only at hsm
      simp only [decide_eq_true hsm, chk_true, imp_self, implies_true, and_true, and_self]
      rw [wrap_i64 (n := ((splitL 1 3 b).length : Int) - 1) (by omega) (by omega), wrap_i64 (n := i + 1) (by omega) (by omega), wrap_i64 (n := now + nextR l n 21) (by omega) (by omega), wrap_i64 (n := now + nextR l (nextN l n) 21) (by omega) (by omega), wrap_i64 (n := now + nextR l (nextN l (nextN l n)) 21) (by omega) (by omega)]
      refine chk_inB (by omega) (by omega) (fun k' o' e => ?_)
      have e' : dlvN b i.toNat now = (k', o') := hr.symm.trans e
      by_cases hl : i.toNat + 1 = (splitL 1 3 b).length
      · rw [dlvN, if_pos hl] at e'
        cases e'
        rw [show (i == ((splitL 1 3 b).length : Int) - 1) = true by simp; omega]
        simp only [beq_self_eq_true, Bool.not_true, br_false, br_true, strEq_refl]
        refine br_dec (fun h0 => absurd h0 (by simp)) (fun _ => chk_dec (by omega) ?_)
        exact ih _ _ _ _ _ _ _ _ _ _ _ _ _ _ (by omega) ⟨by omega, by omega, by omega, by omega, by omega, by omega, by omega⟩ ⟨⟨he, rfl, fun h0 => absurd h0 (by omega), fun _ => ⟨now, rfl⟩⟩, hk⟩
      · rw [dlvN, if_neg hl] at e'
        cases e'
        rw [show (i == ((splitL 1 3 b).length : Int) - 1) = false by simp; omega]
        simp only [o0, beq_self_eq_true, Bool.not_true, Bool.not_false, br_false, br_true]
        refine br_dec (fun h0 => absurd h0 (by simp)) (fun _ => chk_dec (by omega) (br_eq (fun _ => ?_) (fun _ => chk_dec (by omega) ?_)))
        · intro z hz' hzl
          have hsm2 := dinv_small (DInv.next (b := b) (i := i.toNat + 1) (now := now) now (by omega) (by omega) (by omega)) hb4
          refine chk_dec hsm2 (fun k1 o1 e1 => ?_)
          have e1' := (recv_busy b (i.toNat + 1) now z (by rw [hzl]; rfl) p6 (by omega)).symm.trans e1
          rw [busy_eq] at e1'
          cases e1'
          simp only [br_false]
          refine br_ne (fun h0 => absurd rfl h0) (fun _ => chk_of rfl (chk_of rfl (br_ne (fun h0 => absurd rfl h0) (fun _ => chk_of rfl (chk_of rfl (br_ne (fun h0 => absurd rfl h0) (fun _ => chk_of rfl (chk_of rfl (br_not (br_str (fun _ => ?_) (fun h0 => absurd rfl h0)))))))))))
          refine chk_dec (by omega) (fun z2 hz2 hzl2 => chk_dec hsm2 (fun k2 o2 e2 => ?_))
          have e2' := (recv_stray b (i.toNat + 1) now _ z2 p6 (by omega)).symm.trans e2
          cases e2'
          simp only [o0, br_false]
          refine br_dec (fun h0 => absurd h0 (by simp)) (fun _ => chk_dec (by omega) ?_)
          exact ih _ _ _ _ _ _ _ _ _ _ _ _ _ _ (by omega) ⟨by omega, by omega, by omega, by omega, by omega, by omega, by omega⟩ ⟨⟨he, rfl, fun _ => by rw [show (i + 1).toNat = i.toNat + 1 by omega]; exact .next now (by omega) (by omega) (by omega), fun h0 => absurd h0 (by omega)⟩, hk⟩
        · exact ih _ _ _ _ _ _ _ _ _ _ _ _ _ _ (by omega) ⟨by omega, by omega, by omega, by omega, by omega, by omega, by omega⟩ ⟨⟨he, rfl, fun _ => by rw [show (i + 1).toNat = i.toNat + 1 by omega]; exact .next now (by omega) (by omega) (by omega), fun h0 => absurd h0 (by omega)⟩, hk⟩
    · obtain ⟨t, ht⟩ := hz (by omega)
      unfold dlvB at ht
      cases ht
      exact hk _
theorem l12_9 : ∀ s k, L12_9 s k → Tri Proofs.Try.prog 170 (.loop (loopAt Proofs.Try.f12 9)) s k := by
  intro s k h
  unfold L12_9 at h
  split at h
  · obtain ⟨h1, h2⟩ := chk_iff.1 h
    exact iter_ok (c := c12_0) gamL_ok (l := u12) a12 rfl mixed_ok (by kernel_rfl) (ls := []) rfl (.inl rfl) trivial (kps := kp12_9) (tr := tr12_9) (_) (i12_9 k _ _ _ _ _ _ _ _ _ _ _ _ _ _ _ (Nat.lt_succ_self _) (of_decide_eq_true h1) h2)
  · exact h.elim
theorem p12_0 (seed size : Int) (l : List Int) (post : AV → Option AV → Prop) (hin : InRL [.int .i64 seed, .int .i64 size, .ints false .i64 l]) (hie : InRO none) (h : post (.bool true) none) : Ok (runF c12 pm12 Proofs.Try.f12 [.int .i64 seed, .int .i64 size, .ints false .i64 l] none (post)) := by
  refine ⟨?_⟩
  rw [t12_0]
  intro r hr
  have hm := imin_rng r 4096 (by omega) (by omega)
  have u1 := Int.emod_nonneg (IntKind.u64.wrap seed) (show (99 : Int) ≠ 0 by omega)
  have u2 := Int.emod_lt_of_pos (IntKind.u64.wrap seed) (show (0 : Int) < 99 by omega)
  refine chk_dec (by omega) (fun b hb hl => ?_)
  have he : splitE 3 b.length = 0 := by rw [splitE, if_neg (by omega), if_neg (by omega)]
  have hs := splitL_short 1 3 b
  have hn := split_len 1 3 b he
  have hcd := count_div (c := b.length) (by omega) (by omega)
  refine chk_dec (by omega) ⟨⟨he, rfl, fun _ => .first rfl, fun h0 => ?_⟩, fun _ => h⟩
  exfalso
  omega
theorem k12 : Keeps Proofs.Try.prog 12 S12 := by
  refine ⟨?_, Proofs.Try.f12, by kernel_rfl, by kernel_rfl, by kernel_rfl⟩
  intro args e post h
  unfold S12 at h
  split at h
  · refine Spec.inR fun hin hie => fun_ok' (c := c12) gamL_ok (l := u12) a12 rfl mixed_ok (fn := Proofs.Try.f12) (show Proofs.Try.prog.funcs[12]? = some Proofs.Try.f12 by kernel_rfl) (by kernel_rfl) (ls := [(9, L12_9)]) rfl (.inr (by kernel_rfl)) ⟨l12_9, trivial⟩ (pm := pm12) (by simp [c12]) (by rintro ⟨t, l, h⟩; cases h) ?_
    exact p12_0 _ _ _ _ hin hie h
  · exact h.elim
end Go.Proofs.Ytokeanadhihlfaa.V
