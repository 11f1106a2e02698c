import Derived.Test.YtokeanadhihlfaaPlans
import Derived.Test.YtokeanadhihlfaaMB
import Derived.Test.YtokeanadhihlfaaProg
import Derived.Test.YtokeanadhihlfaaS0
import Derived.Test.YtokeanadhihlfaaS1
import Derived.Test.YtokeanadhihlfaaS2
import Derived.Test.YtokeanadhihlfaaS3
import Derived.Test.YtokeanadhihlfaaS4
import Derived.Test.YtokeanadhihlfaaS5
import Derived.Test.YtokeanadhihlfaaB1
import Derived.Test.YtokeanadhihlfaaP7
import Derived.Test.YtokeanadhihlfaaL1
import Derived.Test.YtokeanadhihlfaaL2
import Derived.Test.YtokeanadhihlfaaL3
import Derived.Test.YtokeanadhihlfaaL4a
import Derived.Test.YtokeanadhihlfaaL4b
import Derived.Test.YtokeanadhihlfaaL4c
import Derived.Test.YtokeanadhihlfaaL5
import Derived.Test.YtokeanadhihlfaaPlansB
import Derived.KernelRfl
set_option linter.all false
set_option maxHeartbeats 1000000
namespace Go.Proofs.Ytokeanadhihlfaa.V
open Go
structure OnceI (k : Lk) (op : Bool) (ch : Int) : Prop where
  inv : LInv k
  o1 : op = true → k.st = 2 ∧ k.a = ch
  o2 : op = false → k.st ≠ 2
def pm13 : Pm := ⟨[.i .i64], .no, [.s]⟩
def u13 : List (Nat × Tr) := [(26, S26), (27, S27), (35, S35), (37, S37), (38, S38), (42, S42), (46, S46), (47, S47)]
theorem a13 : AllKeep Proofs.Try.prog u13 := ⟨k26, k27, k35, k37, k38, k42, k46, k47, trivial⟩

def kp13_7 : List (Loc × Keep) := [(.t 3, .ptr), (.t 5, .ptr), (.t 6, .shp .s), (.t 7, .shp .s), (.t 8, .shp .s), (.c 3 5, .shp (.i .u8))]
def tr13_7 : Trim := .some [] [] [2] []
def L13_7 : LTr
  | ⟨[(3, .ptr 3 0 0), (5, .ptr 22 0 0), (6, .bool op), (7, .int .u32 ch), (8, .int .i64 i)], [(3, .box 57 [.int .i64 kn, .int .i64 kst, .int .u32 ka, .int .i64 kc, .int .i64 kl, .ints false .u8 ks, .int .i64 kq, .int .i64 kt]), (22, .box 83 [.ints false .i64 l, .int .i64 n])]⟩, k => chk (decide (0 ≤ i ∧ i ≤ 50 ∧ 0 ≤ n ∧ n ≤ l.length)) (OnceI ⟨kn, kst, ka, kc, kl, ks, kq, kt⟩ op ch ∧ k (.exit 0) ⟨[], []⟩)
  | _, _ => False
def c13_0 : Cfg := { n := 99, Γ := GamL, C := ofL u13, pm := pmL [(26, pm26), (27, pm27), (35, pm35), (37, pm37), (38, pm38), (42, pm42), (46, pm46), (47, pm47)], plan := planB13, L := lpL [], unroll := nmL [], keep := kpL [(7, kp13_7)] }
def c13 : Cfg := { n := 99, Γ := GamL, C := ofL u13, pm := pmL [(26, pm26), (27, pm27), (35, pm35), (37, pm37), (38, pm38), (42, pm42), (46, pm46), (47, pm47)], plan := planB13, L := lpL [(7, L13_7)], unroll := nmL [], keep := kpL [(7, kp13_7)] }
def S13 : Tr
  | [.ints false .i64 l], none, post => post (.bool true) none
  | _, _, _ => False
theorem t13_0 (l : List Int) (post : AV → Option AV → Prop) : runF c13 pm13 Proofs.Try.f13 [.ints false .i64 l] none post = (OnceI
     (Lk.mk (kN (3 : Int)).n (kN (3 : Int)).st (kN (3 : Int)).a (kN (3 : Int)).cmd (kN (3 : Int)).len (kN (3 : Int)).s
     (kN (3 : Int)).q (kN (3 : Int)).t)
     false (0 : Int) ∧
     post (AV.bool true) none) := by kernel_rfl
theorem q13_7 (ch i n : Int) (op : Bool) (l : List Int) (kn kst ka kc kl kq kt : Int) (ks : List Int) (k : Out → AS → Prop) : stepL c13_0 kp13_7 tr13_7 (loopAt Proofs.Try.f13 7) ⟨[(3, .ptr 3 0 0), (5, .ptr 22 0 0), (6, .bool op), (7, .int .u32 ch), (8, .int .i64 i)], [(3, .box 57 [.int .i64 kn, .int .i64 kst, .int .u32 ka, .int .i64 kc, .int .i64 kl, .ints false .u8 ks, .int .i64 kq, .int .i64 kt]), (22, .box 83 [.ints false .i64 l, .int .i64 n])]⟩ k = (br (decide (i < (50 : Int)))
     (br (decide (n < @Nat.cast Int _ l.length))
     (br op
     (chk (decide ((0 : Int) < (4 : Int) ∧ (4 : Int) ≤ (1000000 : Int) ∧ (0 : Int) ≤ n ∧ n ≤ @Nat.cast Int _ l.length))
     (br (nextR l n (4 : Int) == (0 : Int))
     (br ((answL (Lk.mk kn kst ka kc kl ks kq kt) [IntKind.u8.wrap i]).snd.2 != (0 : Int))
     (k Out.ret (AS.mk [((2 : Nat), AV.bool false)] []))
     (br (@Nat.cast Int _ (answL (Lk.mk kn kst ka kc kl ks kq kt) [IntKind.u8.wrap i]).snd.1.length != (1 : Int))
     (k Out.ret (AS.mk [((2 : Nat), AV.bool false)] []))
     (chk (inB (0 : Int) (answL (Lk.mk kn kst ka kc kl ks kq kt) [IntKind.u8.wrap i]).snd.1.length)
     (br
     (((answL (Lk.mk kn kst ka kc kl ks kq kt) [IntKind.u8.wrap i]).snd.1.getD (0 : Nat) default).1 != ch)
     (k Out.ret (AS.mk [((2 : Nat), AV.bool false)] []))
     (k Out.normal
     (AS.mk
     [((3 : Nat), AV.ptr (3 : Nat) (0 : Nat) (0 : Nat)),
     ((5 : Nat), AV.ptr (22 : Nat) (0 : Nat) (0 : Nat)), ((6 : Nat), AV.bool false),
     ((7 : Nat), AV.int IntKind.u32 ch),
     ((8 : Nat), AV.int IntKind.i64 (IntKind.i64.wrap (i + (1 : Int))))]
     [((3 : Nat),
     AV.box (57 : Nat)
     [AV.int IntKind.i64 (answL (Lk.mk kn kst ka kc kl ks kq kt) [IntKind.u8.wrap i]).fst.n,
     AV.int IntKind.i64 (answL (Lk.mk kn kst ka kc kl ks kq kt) [IntKind.u8.wrap i]).fst.st,
     AV.int IntKind.u32 (answL (Lk.mk kn kst ka kc kl ks kq kt) [IntKind.u8.wrap i]).fst.a,
     AV.int IntKind.i64 (answL (Lk.mk kn kst ka kc kl ks kq kt) [IntKind.u8.wrap i]).fst.cmd,
     AV.int IntKind.i64 (answL (Lk.mk kn kst ka kc kl ks kq kt) [IntKind.u8.wrap i]).fst.len,
     AV.ints false IntKind.u8
     (answL (Lk.mk kn kst ka kc kl ks kq kt) [IntKind.u8.wrap i]).fst.s,
     AV.int IntKind.i64 (answL (Lk.mk kn kst ka kc kl ks kq kt) [IntKind.u8.wrap i]).fst.q,
     AV.int IntKind.i64 (answL (Lk.mk kn kst ka kc kl ks kq kt) [IntKind.u8.wrap i]).fst.t]),
     ((22 : Nat),
     AV.box (83 : Nat) [AV.ints false IntKind.i64 l, AV.int IntKind.i64 (nextN l n)])]))))))
     (chk (decide ((0 : Int) ≤ nextN l n ∧ nextN l n ≤ @Nat.cast Int _ l.length))
     (∀ (r : Rec) (n' : Int),
     RngR (0 : Nat) r →
     r.s.length ≤ (60 : Nat) →
     (0 : Int) ≤ n' ∧ n' ≤ ↑l.length →
     chk (decide (ks.length ≤ (100000 : Nat) ∧ (-1000000 : Int) ≤ kl ∧ kl ≤ (1000000 : Int)))
     (∀ (k' : Lk) (o' : Ou),
     recvL (Lk.mk kn kst ka kc kl ks kq kt) i (Rec.mk r.a r.b r.c r.d r.f r.s) = (k', o') →
     br o'.dl
     (br op
     (br (!o'.cn) (k Out.ret (AS.mk [((2 : Nat), AV.bool false)] []))
     (br o'.dl
     (br (!(k'.st == (2 : Int)) == true)
     (k Out.ret (AS.mk [((2 : Nat), AV.bool false)] []))
     (k Out.normal
     (AS.mk
     [((3 : Nat), AV.ptr (3 : Nat) (0 : Nat) (0 : Nat)),
     ((5 : Nat), AV.ptr (22 : Nat) (0 : Nat) (0 : Nat)), ((6 : Nat), AV.bool true),
     ((7 : Nat), AV.int IntKind.u32 r.1),
     ((8 : Nat), AV.int IntKind.i64 (IntKind.i64.wrap (i + (1 : Int))))]
     [((3 : Nat),
     AV.box (57 : Nat)
     [AV.int IntKind.i64 k'.n, AV.int IntKind.i64 k'.st,
     AV.int IntKind.u32 k'.a, AV.int IntKind.i64 k'.cmd,
     AV.int IntKind.i64 k'.len, AV.ints false IntKind.u8 k'.s,
     AV.int IntKind.i64 k'.q, AV.int IntKind.i64 k'.t]),
     ((22 : Nat),
     AV.box (83 : Nat) [AV.ints false IntKind.i64 l, AV.int IntKind.i64 n'])])))
     (br o'.cn
     (br (k'.st == (0 : Int))
     (br (!(k'.st == (2 : Int)) == false)
     (k Out.ret (AS.mk [((2 : Nat), AV.bool false)] []))
     (k Out.normal
     (AS.mk
     [((3 : Nat), AV.ptr (3 : Nat) (0 : Nat) (0 : Nat)),
     ((5 : Nat), AV.ptr (22 : Nat) (0 : Nat) (0 : Nat)),
     ((6 : Nat), AV.bool false), ((7 : Nat), AV.int IntKind.u32 ch),
     ((8 : Nat), AV.int IntKind.i64 (IntKind.i64.wrap (i + (1 : Int))))]
     [((3 : Nat),
     AV.box (57 : Nat)
     [AV.int IntKind.i64 k'.n, AV.int IntKind.i64 k'.st,
     AV.int IntKind.u32 k'.a, AV.int IntKind.i64 k'.cmd,
     AV.int IntKind.i64 k'.len, AV.ints false IntKind.u8 k'.s,
     AV.int IntKind.i64 k'.q, AV.int IntKind.i64 k'.t]),
     ((22 : Nat),
     AV.box (83 : Nat)
     [AV.ints false IntKind.i64 l, AV.int IntKind.i64 n'])])))
     (br (!(k'.st == (2 : Int)) == op)
     (k Out.ret (AS.mk [((2 : Nat), AV.bool false)] []))
     (k Out.normal
     (AS.mk
     [((3 : Nat), AV.ptr (3 : Nat) (0 : Nat) (0 : Nat)),
     ((5 : Nat), AV.ptr (22 : Nat) (0 : Nat) (0 : Nat)),
     ((6 : Nat), AV.bool op), ((7 : Nat), AV.int IntKind.u32 ch),
     ((8 : Nat), AV.int IntKind.i64 (IntKind.i64.wrap (i + (1 : Int))))]
     [((3 : Nat),
     AV.box (57 : Nat)
     [AV.int IntKind.i64 k'.n, AV.int IntKind.i64 k'.st,
     AV.int IntKind.u32 k'.a, AV.int IntKind.i64 k'.cmd,
     AV.int IntKind.i64 k'.len, AV.ints false IntKind.u8 k'.s,
     AV.int IntKind.i64 k'.q, AV.int IntKind.i64 k'.t]),
     ((22 : Nat),
     AV.box (83 : Nat)
     [AV.ints false IntKind.i64 l, AV.int IntKind.i64 n'])]))))
     (br (!(k'.st == (2 : Int)) == op)
     (k Out.ret (AS.mk [((2 : Nat), AV.bool false)] []))
     (k Out.normal
     (AS.mk
     [((3 : Nat), AV.ptr (3 : Nat) (0 : Nat) (0 : Nat)),
     ((5 : Nat), AV.ptr (22 : Nat) (0 : Nat) (0 : Nat)), ((6 : Nat), AV.bool op),
     ((7 : Nat), AV.int IntKind.u32 ch),
     ((8 : Nat), AV.int IntKind.i64 (IntKind.i64.wrap (i + (1 : Int))))]
     [((3 : Nat),
     AV.box (57 : Nat)
     [AV.int IntKind.i64 k'.n, AV.int IntKind.i64 k'.st,
     AV.int IntKind.u32 k'.a, AV.int IntKind.i64 k'.cmd,
     AV.int IntKind.i64 k'.len, AV.ints false IntKind.u8 k'.s,
     AV.int IntKind.i64 k'.q, AV.int IntKind.i64 k'.t]),
     ((22 : Nat),
     AV.box (83 : Nat)
     [AV.ints false IntKind.i64 l, AV.int IntKind.i64 n'])]))))))
     (br o'.dl
     (br (!(k'.st == (2 : Int)) == true) (k Out.ret (AS.mk [((2 : Nat), AV.bool false)] []))
     (k Out.normal
     (AS.mk
     [((3 : Nat), AV.ptr (3 : Nat) (0 : Nat) (0 : Nat)),
     ((5 : Nat), AV.ptr (22 : Nat) (0 : Nat) (0 : Nat)), ((6 : Nat), AV.bool true),
     ((7 : Nat), AV.int IntKind.u32 r.1),
     ((8 : Nat), AV.int IntKind.i64 (IntKind.i64.wrap (i + (1 : Int))))]
     [((3 : Nat),
     AV.box (57 : Nat)
     [AV.int IntKind.i64 k'.n, AV.int IntKind.i64 k'.st, AV.int IntKind.u32 k'.a,
     AV.int IntKind.i64 k'.cmd, AV.int IntKind.i64 k'.len,
     AV.ints false IntKind.u8 k'.s, AV.int IntKind.i64 k'.q,
     AV.int IntKind.i64 k'.t]),
     ((22 : Nat),
     AV.box (83 : Nat) [AV.ints false IntKind.i64 l, AV.int IntKind.i64 n'])])))
     (br o'.cn
     (br (k'.st == (0 : Int))
     (br (!(k'.st == (2 : Int)) == false)
     (k Out.ret (AS.mk [((2 : Nat), AV.bool false)] []))
     (k Out.normal
     (AS.mk
     [((3 : Nat), AV.ptr (3 : Nat) (0 : Nat) (0 : Nat)),
     ((5 : Nat), AV.ptr (22 : Nat) (0 : Nat) (0 : Nat)),
     ((6 : Nat), AV.bool false), ((7 : Nat), AV.int IntKind.u32 ch),
     ((8 : Nat), AV.int IntKind.i64 (IntKind.i64.wrap (i + (1 : Int))))]
     [((3 : Nat),
     AV.box (57 : Nat)
     [AV.int IntKind.i64 k'.n, AV.int IntKind.i64 k'.st,
     AV.int IntKind.u32 k'.a, AV.int IntKind.i64 k'.cmd,
     AV.int IntKind.i64 k'.len, AV.ints false IntKind.u8 k'.s,
     AV.int IntKind.i64 k'.q, AV.int IntKind.i64 k'.t]),
     ((22 : Nat),
     AV.box (83 : Nat)
     [AV.ints false IntKind.i64 l, AV.int IntKind.i64 n'])])))
     (br (!(k'.st == (2 : Int)) == op)
     (k Out.ret (AS.mk [((2 : Nat), AV.bool false)] []))
     (k Out.normal
     (AS.mk
     [((3 : Nat), AV.ptr (3 : Nat) (0 : Nat) (0 : Nat)),
     ((5 : Nat), AV.ptr (22 : Nat) (0 : Nat) (0 : Nat)), ((6 : Nat), AV.bool op),
     ((7 : Nat), AV.int IntKind.u32 ch),
     ((8 : Nat), AV.int IntKind.i64 (IntKind.i64.wrap (i + (1 : Int))))]
     [((3 : Nat),
     AV.box (57 : Nat)
     [AV.int IntKind.i64 k'.n, AV.int IntKind.i64 k'.st,
     AV.int IntKind.u32 k'.a, AV.int IntKind.i64 k'.cmd,
     AV.int IntKind.i64 k'.len, AV.ints false IntKind.u8 k'.s,
     AV.int IntKind.i64 k'.q, AV.int IntKind.i64 k'.t]),
     ((22 : Nat),
     AV.box (83 : Nat)
     [AV.ints false IntKind.i64 l, AV.int IntKind.i64 n'])]))))
     (br (!(k'.st == (2 : Int)) == op) (k Out.ret (AS.mk [((2 : Nat), AV.bool false)] []))
     (k Out.normal
     (AS.mk
     [((3 : Nat), AV.ptr (3 : Nat) (0 : Nat) (0 : Nat)),
     ((5 : Nat), AV.ptr (22 : Nat) (0 : Nat) (0 : Nat)), ((6 : Nat), AV.bool op),
     ((7 : Nat), AV.int IntKind.u32 ch),
     ((8 : Nat), AV.int IntKind.i64 (IntKind.i64.wrap (i + (1 : Int))))]
     [((3 : Nat),
     AV.box (57 : Nat)
     [AV.int IntKind.i64 k'.n, AV.int IntKind.i64 k'.st,
     AV.int IntKind.u32 k'.a, AV.int IntKind.i64 k'.cmd,
     AV.int IntKind.i64 k'.len, AV.ints false IntKind.u8 k'.s,
     AV.int IntKind.i64 k'.q, AV.int IntKind.i64 k'.t]),
     ((22 : Nat),
     AV.box (83 : Nat)
     [AV.ints false IntKind.i64 l, AV.int IntKind.i64 n'])]))))))
     (br o'.dl
     (br (!(k'.st == (2 : Int)) == true) (k Out.ret (AS.mk [((2 : Nat), AV.bool false)] []))
     (k Out.normal
     (AS.mk
     [((3 : Nat), AV.ptr (3 : Nat) (0 : Nat) (0 : Nat)),
     ((5 : Nat), AV.ptr (22 : Nat) (0 : Nat) (0 : Nat)), ((6 : Nat), AV.bool true),
     ((7 : Nat), AV.int IntKind.u32 r.1),
     ((8 : Nat), AV.int IntKind.i64 (IntKind.i64.wrap (i + (1 : Int))))]
     [((3 : Nat),
     AV.box (57 : Nat)
     [AV.int IntKind.i64 k'.n, AV.int IntKind.i64 k'.st, AV.int IntKind.u32 k'.a,
     AV.int IntKind.i64 k'.cmd, AV.int IntKind.i64 k'.len,
     AV.ints false IntKind.u8 k'.s, AV.int IntKind.i64 k'.q,
     AV.int IntKind.i64 k'.t]),
     ((22 : Nat),
     AV.box (83 : Nat) [AV.ints false IntKind.i64 l, AV.int IntKind.i64 n'])])))
     (br o'.cn
     (br (k'.st == (0 : Int))
     (br (!(k'.st == (2 : Int)) == false)
     (k Out.ret (AS.mk [((2 : Nat), AV.bool false)] []))
     (k Out.normal
     (AS.mk
     [((3 : Nat), AV.ptr (3 : Nat) (0 : Nat) (0 : Nat)),
     ((5 : Nat), AV.ptr (22 : Nat) (0 : Nat) (0 : Nat)),
     ((6 : Nat), AV.bool false), ((7 : Nat), AV.int IntKind.u32 ch),
     ((8 : Nat), AV.int IntKind.i64 (IntKind.i64.wrap (i + (1 : Int))))]
     [((3 : Nat),
     AV.box (57 : Nat)
     [AV.int IntKind.i64 k'.n, AV.int IntKind.i64 k'.st,
     AV.int IntKind.u32 k'.a, AV.int IntKind.i64 k'.cmd,
     AV.int IntKind.i64 k'.len, AV.ints false IntKind.u8 k'.s,
     AV.int IntKind.i64 k'.q, AV.int IntKind.i64 k'.t]),
     ((22 : Nat),
     AV.box (83 : Nat) [AV.ints false IntKind.i64 l, AV.int IntKind.i64 n'])])))
     (br (!(k'.st == (2 : Int)) == op) (k Out.ret (AS.mk [((2 : Nat), AV.bool false)] []))
     (k Out.normal
     (AS.mk
     [((3 : Nat), AV.ptr (3 : Nat) (0 : Nat) (0 : Nat)),
     ((5 : Nat), AV.ptr (22 : Nat) (0 : Nat) (0 : Nat)), ((6 : Nat), AV.bool op),
     ((7 : Nat), AV.int IntKind.u32 ch),
     ((8 : Nat), AV.int IntKind.i64 (IntKind.i64.wrap (i + (1 : Int))))]
     [((3 : Nat),
     AV.box (57 : Nat)
     [AV.int IntKind.i64 k'.n, AV.int IntKind.i64 k'.st,
     AV.int IntKind.u32 k'.a, AV.int IntKind.i64 k'.cmd,
     AV.int IntKind.i64 k'.len, AV.ints false IntKind.u8 k'.s,
     AV.int IntKind.i64 k'.q, AV.int IntKind.i64 k'.t]),
     ((22 : Nat),
     AV.box (83 : Nat) [AV.ints false IntKind.i64 l, AV.int IntKind.i64 n'])]))))
     (br (!(k'.st == (2 : Int)) == op) (k Out.ret (AS.mk [((2 : Nat), AV.bool false)] []))
     (k Out.normal
     (AS.mk
     [((3 : Nat), AV.ptr (3 : Nat) (0 : Nat) (0 : Nat)),
     ((5 : Nat), AV.ptr (22 : Nat) (0 : Nat) (0 : Nat)), ((6 : Nat), AV.bool op),
     ((7 : Nat), AV.int IntKind.u32 ch),
     ((8 : Nat), AV.int IntKind.i64 (IntKind.i64.wrap (i + (1 : Int))))]
     [((3 : Nat),
     AV.box (57 : Nat)
     [AV.int IntKind.i64 k'.n, AV.int IntKind.i64 k'.st, AV.int IntKind.u32 k'.a,
     AV.int IntKind.i64 k'.cmd, AV.int IntKind.i64 k'.len,
     AV.ints false IntKind.u8 k'.s, AV.int IntKind.i64 k'.q,
     AV.int IntKind.i64 k'.t]),
     ((22 : Nat),
     AV.box (83 : Nat)
     [AV.ints false IntKind.i64 l, AV.int IntKind.i64 n'])]))))))))))
     (chk (decide ((0 : Int) ≤ n ∧ n ≤ @Nat.cast Int _ l.length))
     (∀ (r : Rec) (n' : Int),
     RngR (0 : Nat) r →
     r.s.length ≤ (60 : Nat) →
     (0 : Int) ≤ n' ∧ n' ≤ ↑l.length →
     chk (decide (ks.length ≤ (100000 : Nat) ∧ (-1000000 : Int) ≤ kl ∧ kl ≤ (1000000 : Int)))
     (∀ (k' : Lk) (o' : Ou),
     recvL (Lk.mk kn kst ka kc kl ks kq kt) i (Rec.mk r.a r.b r.c r.d r.f r.s) = (k', o') →
     br o'.dl
     (br op
     (br (!o'.cn) (k Out.ret (AS.mk [((2 : Nat), AV.bool false)] []))
     (br o'.dl
     (br (!(k'.st == (2 : Int)) == true) (k Out.ret (AS.mk [((2 : Nat), AV.bool false)] []))
     (k Out.normal
     (AS.mk
     [((3 : Nat), AV.ptr (3 : Nat) (0 : Nat) (0 : Nat)),
     ((5 : Nat), AV.ptr (22 : Nat) (0 : Nat) (0 : Nat)), ((6 : Nat), AV.bool true),
     ((7 : Nat), AV.int IntKind.u32 r.1),
     ((8 : Nat), AV.int IntKind.i64 (IntKind.i64.wrap (i + (1 : Int))))]
     [((3 : Nat),
     AV.box (57 : Nat)
     [AV.int IntKind.i64 k'.n, AV.int IntKind.i64 k'.st, AV.int IntKind.u32 k'.a,
     AV.int IntKind.i64 k'.cmd, AV.int IntKind.i64 k'.len,
     AV.ints false IntKind.u8 k'.s, AV.int IntKind.i64 k'.q,
     AV.int IntKind.i64 k'.t]),
     ((22 : Nat),
     AV.box (83 : Nat) [AV.ints false IntKind.i64 l, AV.int IntKind.i64 n'])])))
     (br o'.cn
     (br (k'.st == (0 : Int))
     (br (!(k'.st == (2 : Int)) == false)
     (k Out.ret (AS.mk [((2 : Nat), AV.bool false)] []))
     (k Out.normal
     (AS.mk
     [((3 : Nat), AV.ptr (3 : Nat) (0 : Nat) (0 : Nat)),
     ((5 : Nat), AV.ptr (22 : Nat) (0 : Nat) (0 : Nat)),
     ((6 : Nat), AV.bool false), ((7 : Nat), AV.int IntKind.u32 ch),
     ((8 : Nat), AV.int IntKind.i64 (IntKind.i64.wrap (i + (1 : Int))))]
     [((3 : Nat),
     AV.box (57 : Nat)
     [AV.int IntKind.i64 k'.n, AV.int IntKind.i64 k'.st,
     AV.int IntKind.u32 k'.a, AV.int IntKind.i64 k'.cmd,
     AV.int IntKind.i64 k'.len, AV.ints false IntKind.u8 k'.s,
     AV.int IntKind.i64 k'.q, AV.int IntKind.i64 k'.t]),
     ((22 : Nat),
     AV.box (83 : Nat) [AV.ints false IntKind.i64 l, AV.int IntKind.i64 n'])])))
     (br (!(k'.st == (2 : Int)) == op) (k Out.ret (AS.mk [((2 : Nat), AV.bool false)] []))
     (k Out.normal
     (AS.mk
     [((3 : Nat), AV.ptr (3 : Nat) (0 : Nat) (0 : Nat)),
     ((5 : Nat), AV.ptr (22 : Nat) (0 : Nat) (0 : Nat)), ((6 : Nat), AV.bool op),
     ((7 : Nat), AV.int IntKind.u32 ch),
     ((8 : Nat), AV.int IntKind.i64 (IntKind.i64.wrap (i + (1 : Int))))]
     [((3 : Nat),
     AV.box (57 : Nat)
     [AV.int IntKind.i64 k'.n, AV.int IntKind.i64 k'.st,
     AV.int IntKind.u32 k'.a, AV.int IntKind.i64 k'.cmd,
     AV.int IntKind.i64 k'.len, AV.ints false IntKind.u8 k'.s,
     AV.int IntKind.i64 k'.q, AV.int IntKind.i64 k'.t]),
     ((22 : Nat),
     AV.box (83 : Nat) [AV.ints false IntKind.i64 l, AV.int IntKind.i64 n'])]))))
     (br (!(k'.st == (2 : Int)) == op) (k Out.ret (AS.mk [((2 : Nat), AV.bool false)] []))
     (k Out.normal
     (AS.mk
     [((3 : Nat), AV.ptr (3 : Nat) (0 : Nat) (0 : Nat)),
     ((5 : Nat), AV.ptr (22 : Nat) (0 : Nat) (0 : Nat)), ((6 : Nat), AV.bool op),
     ((7 : Nat), AV.int IntKind.u32 ch),
     ((8 : Nat), AV.int IntKind.i64 (IntKind.i64.wrap (i + (1 : Int))))]
     [((3 : Nat),
     AV.box (57 : Nat)
     [AV.int IntKind.i64 k'.n, AV.int IntKind.i64 k'.st, AV.int IntKind.u32 k'.a,
     AV.int IntKind.i64 k'.cmd, AV.int IntKind.i64 k'.len,
     AV.ints false IntKind.u8 k'.s, AV.int IntKind.i64 k'.q,
     AV.int IntKind.i64 k'.t]),
     ((22 : Nat),
     AV.box (83 : Nat) [AV.ints false IntKind.i64 l, AV.int IntKind.i64 n'])]))))))
     (br o'.dl
     (br (!(k'.st == (2 : Int)) == true) (k Out.ret (AS.mk [((2 : Nat), AV.bool false)] []))
     (k Out.normal
     (AS.mk
     [((3 : Nat), AV.ptr (3 : Nat) (0 : Nat) (0 : Nat)),
     ((5 : Nat), AV.ptr (22 : Nat) (0 : Nat) (0 : Nat)), ((6 : Nat), AV.bool true),
     ((7 : Nat), AV.int IntKind.u32 r.1),
     ((8 : Nat), AV.int IntKind.i64 (IntKind.i64.wrap (i + (1 : Int))))]
     [((3 : Nat),
     AV.box (57 : Nat)
     [AV.int IntKind.i64 k'.n, AV.int IntKind.i64 k'.st, AV.int IntKind.u32 k'.a,
     AV.int IntKind.i64 k'.cmd, AV.int IntKind.i64 k'.len,
     AV.ints false IntKind.u8 k'.s, AV.int IntKind.i64 k'.q,
     AV.int IntKind.i64 k'.t]),
     ((22 : Nat),
     AV.box (83 : Nat) [AV.ints false IntKind.i64 l, AV.int IntKind.i64 n'])])))
     (br o'.cn
     (br (k'.st == (0 : Int))
     (br (!(k'.st == (2 : Int)) == false) (k Out.ret (AS.mk [((2 : Nat), AV.bool false)] []))
     (k Out.normal
     (AS.mk
     [((3 : Nat), AV.ptr (3 : Nat) (0 : Nat) (0 : Nat)),
     ((5 : Nat), AV.ptr (22 : Nat) (0 : Nat) (0 : Nat)), ((6 : Nat), AV.bool false),
     ((7 : Nat), AV.int IntKind.u32 ch),
     ((8 : Nat), AV.int IntKind.i64 (IntKind.i64.wrap (i + (1 : Int))))]
     [((3 : Nat),
     AV.box (57 : Nat)
     [AV.int IntKind.i64 k'.n, AV.int IntKind.i64 k'.st, AV.int IntKind.u32 k'.a,
     AV.int IntKind.i64 k'.cmd, AV.int IntKind.i64 k'.len,
     AV.ints false IntKind.u8 k'.s, AV.int IntKind.i64 k'.q,
     AV.int IntKind.i64 k'.t]),
     ((22 : Nat),
     AV.box (83 : Nat) [AV.ints false IntKind.i64 l, AV.int IntKind.i64 n'])])))
     (br (!(k'.st == (2 : Int)) == op) (k Out.ret (AS.mk [((2 : Nat), AV.bool false)] []))
     (k Out.normal
     (AS.mk
     [((3 : Nat), AV.ptr (3 : Nat) (0 : Nat) (0 : Nat)),
     ((5 : Nat), AV.ptr (22 : Nat) (0 : Nat) (0 : Nat)), ((6 : Nat), AV.bool op),
     ((7 : Nat), AV.int IntKind.u32 ch),
     ((8 : Nat), AV.int IntKind.i64 (IntKind.i64.wrap (i + (1 : Int))))]
     [((3 : Nat),
     AV.box (57 : Nat)
     [AV.int IntKind.i64 k'.n, AV.int IntKind.i64 k'.st, AV.int IntKind.u32 k'.a,
     AV.int IntKind.i64 k'.cmd, AV.int IntKind.i64 k'.len,
     AV.ints false IntKind.u8 k'.s, AV.int IntKind.i64 k'.q,
     AV.int IntKind.i64 k'.t]),
     ((22 : Nat),
     AV.box (83 : Nat) [AV.ints false IntKind.i64 l, AV.int IntKind.i64 n'])]))))
     (br (!(k'.st == (2 : Int)) == op) (k Out.ret (AS.mk [((2 : Nat), AV.bool false)] []))
     (k Out.normal
     (AS.mk
     [((3 : Nat), AV.ptr (3 : Nat) (0 : Nat) (0 : Nat)),
     ((5 : Nat), AV.ptr (22 : Nat) (0 : Nat) (0 : Nat)), ((6 : Nat), AV.bool op),
     ((7 : Nat), AV.int IntKind.u32 ch),
     ((8 : Nat), AV.int IntKind.i64 (IntKind.i64.wrap (i + (1 : Int))))]
     [((3 : Nat),
     AV.box (57 : Nat)
     [AV.int IntKind.i64 k'.n, AV.int IntKind.i64 k'.st, AV.int IntKind.u32 k'.a,
     AV.int IntKind.i64 k'.cmd, AV.int IntKind.i64 k'.len,
     AV.ints false IntKind.u8 k'.s, AV.int IntKind.i64 k'.q,
     AV.int IntKind.i64 k'.t]),
     ((22 : Nat),
     AV.box (83 : Nat) [AV.ints false IntKind.i64 l, AV.int IntKind.i64 n'])]))))))
     (br o'.dl
     (br (!(k'.st == (2 : Int)) == true) (k Out.ret (AS.mk [((2 : Nat), AV.bool false)] []))
     (k Out.normal
     (AS.mk
     [((3 : Nat), AV.ptr (3 : Nat) (0 : Nat) (0 : Nat)),
     ((5 : Nat), AV.ptr (22 : Nat) (0 : Nat) (0 : Nat)), ((6 : Nat), AV.bool true),
     ((7 : Nat), AV.int IntKind.u32 r.1),
     ((8 : Nat), AV.int IntKind.i64 (IntKind.i64.wrap (i + (1 : Int))))]
     [((3 : Nat),
     AV.box (57 : Nat)
     [AV.int IntKind.i64 k'.n, AV.int IntKind.i64 k'.st, AV.int IntKind.u32 k'.a,
     AV.int IntKind.i64 k'.cmd, AV.int IntKind.i64 k'.len,
     AV.ints false IntKind.u8 k'.s, AV.int IntKind.i64 k'.q,
     AV.int IntKind.i64 k'.t]),
     ((22 : Nat),
     AV.box (83 : Nat) [AV.ints false IntKind.i64 l, AV.int IntKind.i64 n'])])))
     (br o'.cn
     (br (k'.st == (0 : Int))
     (br (!(k'.st == (2 : Int)) == false) (k Out.ret (AS.mk [((2 : Nat), AV.bool false)] []))
     (k Out.normal
     (AS.mk
     [((3 : Nat), AV.ptr (3 : Nat) (0 : Nat) (0 : Nat)),
     ((5 : Nat), AV.ptr (22 : Nat) (0 : Nat) (0 : Nat)), ((6 : Nat), AV.bool false),
     ((7 : Nat), AV.int IntKind.u32 ch),
     ((8 : Nat), AV.int IntKind.i64 (IntKind.i64.wrap (i + (1 : Int))))]
     [((3 : Nat),
     AV.box (57 : Nat)
     [AV.int IntKind.i64 k'.n, AV.int IntKind.i64 k'.st, AV.int IntKind.u32 k'.a,
     AV.int IntKind.i64 k'.cmd, AV.int IntKind.i64 k'.len,
     AV.ints false IntKind.u8 k'.s, AV.int IntKind.i64 k'.q,
     AV.int IntKind.i64 k'.t]),
     ((22 : Nat),
     AV.box (83 : Nat) [AV.ints false IntKind.i64 l, AV.int IntKind.i64 n'])])))
     (br (!(k'.st == (2 : Int)) == op) (k Out.ret (AS.mk [((2 : Nat), AV.bool false)] []))
     (k Out.normal
     (AS.mk
     [((3 : Nat), AV.ptr (3 : Nat) (0 : Nat) (0 : Nat)),
     ((5 : Nat), AV.ptr (22 : Nat) (0 : Nat) (0 : Nat)), ((6 : Nat), AV.bool op),
     ((7 : Nat), AV.int IntKind.u32 ch),
     ((8 : Nat), AV.int IntKind.i64 (IntKind.i64.wrap (i + (1 : Int))))]
     [((3 : Nat),
     AV.box (57 : Nat)
     [AV.int IntKind.i64 k'.n, AV.int IntKind.i64 k'.st, AV.int IntKind.u32 k'.a,
     AV.int IntKind.i64 k'.cmd, AV.int IntKind.i64 k'.len,
     AV.ints false IntKind.u8 k'.s, AV.int IntKind.i64 k'.q,
     AV.int IntKind.i64 k'.t]),
     ((22 : Nat),
     AV.box (83 : Nat) [AV.ints false IntKind.i64 l, AV.int IntKind.i64 n'])]))))
     (br (!(k'.st == (2 : Int)) == op) (k Out.ret (AS.mk [((2 : Nat), AV.bool false)] []))
     (k Out.normal
     (AS.mk
     [((3 : Nat), AV.ptr (3 : Nat) (0 : Nat) (0 : Nat)),
     ((5 : Nat), AV.ptr (22 : Nat) (0 : Nat) (0 : Nat)), ((6 : Nat), AV.bool op),
     ((7 : Nat), AV.int IntKind.u32 ch),
     ((8 : Nat), AV.int IntKind.i64 (IntKind.i64.wrap (i + (1 : Int))))]
     [((3 : Nat),
     AV.box (57 : Nat)
     [AV.int IntKind.i64 k'.n, AV.int IntKind.i64 k'.st, AV.int IntKind.u32 k'.a,
     AV.int IntKind.i64 k'.cmd, AV.int IntKind.i64 k'.len,
     AV.ints false IntKind.u8 k'.s, AV.int IntKind.i64 k'.q,
     AV.int IntKind.i64 k'.t]),
     ((22 : Nat),
     AV.box (83 : Nat) [AV.ints false IntKind.i64 l, AV.int IntKind.i64 n'])])))))))))
     (k (Out.exit (0 : Nat)) (AS.mk [] [])))
     (k (Out.exit (0 : Nat)) (AS.mk [] []))) := by kernel_rfl

theorem i13_7 (k : Out → AS → Prop) (fuel : Nat) : ∀ (ch i n : Int) (op : Bool) (l : List Int) (kn kst ka kc kl kq kt : Int) (ks : List Int), (50 - i).toNat < fuel → (0 ≤ i ∧ i ≤ 50 ∧ 0 ≤ n ∧ n ≤ l.length) → (OnceI ⟨kn, kst, ka, kc, kl, ks, kq, kt⟩ op ch ∧ k (.exit 0) ⟨[], []⟩) → iterL (stepL c13_0 kp13_7 tr13_7 (loopAt Proofs.Try.f13 7)) k fuel ⟨[(3, .ptr 3 0 0), (5, .ptr 22 0 0), (6, .bool op), (7, .int .u32 ch), (8, .int .i64 i)], [(3, .box 57 [.int .i64 kn, .int .i64 kst, .int .u32 ka, .int .i64 kc, .int .i64 kl, .ints false .u8 ks, .int .i64 kq, .int .i64 kt]), (22, .box 83 [.ints false .i64 l, .int .i64 n])]⟩ := by
  induction fuel with
  | zero => intro ch i n op l kn kst ka kc kl kq kt ks hm; omega
  | succ fuel ih =>
    intro ch i n op l kn kst ka kc kl kq kt ks hm hp hk
    simp only [iterL]
    rw [q13_7]
    dsimp only
    obtain ⟨p1, p2, p3, p4⟩ := hp
    obtain ⟨hI, hk⟩ := hk
    have a0 : 0 ≤ n ∧ n ≤ l.length := ⟨p3, p4⟩
    have a1 := nextN_rng a0
    have i0 : 0 ≤ kl := hI.inv.l0
    have i1 : kl ≤ 4096 := hI.inv.l1
    have i2 : (ks.length : Int) ≤ kl := hI.inv.ls
    have c2t : ∀ x : Int, x = 2 → (!((x == 2) == true)) = false := fun x h => by rw [h]; rfl
    have c2f : ∀ x : Int, x ≠ 2 → (!((x == 2) == false)) = false := fun x h => by rw [show (x == 2) = false by simpa using h]; rfl
    refine br_dec (fun hc => br_dec (fun hd => ?_) (fun hd => hk)) (fun hc => hk)
    rw [wrap_i64 (n := i + 1) (by omega) (by omega)]
    cases op
    · simp only [br_false]
      refine chk_dec (by omega) ?_
      intro r n' hr hl hn'
      refine chk_dec ⟨by omega, by omega, by omega⟩ (fun k' o' e => ?_)
      have e' : recvL ⟨kn, kst, ka, kc, kl, ks, kq, kt⟩ i r = (k', o') := e
      have inv' := recv_inv (k := ⟨kn, kst, ka, kc, kl, ks, kq, kt⟩) (now := i) (p := r) hI.inv
      have on := recv_once ⟨kn, kst, ka, kc, kl, ks, kq, kt⟩ i r hI.inv
      rw [e'] at inv' on
      dsimp only at inv' on
      cases hdl : o'.dl <;> cases hcn : o'.cn <;> simp only [Bool.not_true, Bool.not_false, br_true, br_false]
      · have hn2 := on.n hdl (hI.o2 rfl)
        rw [c2f _ hn2, br_false]
        exact ih _ _ _ _ _ _ _ _ _ _ _ _ _ (by omega) ⟨by omega, by omega, hn'.1, hn'.2⟩ ⟨⟨inv', (fun h => by cases h), fun _ => hn2⟩, hk⟩
      · have hn2 := on.n hdl (hI.o2 rfl)
        refine br_eq (fun h0 => ?_) (fun h0 => ?_)
        · rw [c2f _ hn2, br_false]
          exact ih _ _ _ _ _ _ _ _ _ _ _ _ _ (by omega) ⟨by omega, by omega, hn'.1, hn'.2⟩ ⟨⟨inv', (fun h => by cases h), fun _ => hn2⟩, hk⟩
        · rw [c2f _ hn2, br_false]
          exact ih _ _ _ _ _ _ _ _ _ _ _ _ _ (by omega) ⟨by omega, by omega, hn'.1, hn'.2⟩ ⟨⟨inv', (fun h => by cases h), fun _ => hn2⟩, hk⟩
      · have hd2 := on.d hdl
        rw [c2t _ hd2.2.1, br_false]
        exact ih _ _ _ _ _ _ _ _ _ _ _ _ _ (by omega) ⟨by omega, by omega, hn'.1, hn'.2⟩ ⟨⟨inv', fun _ => hd2.2, (fun h => by cases h)⟩, hk⟩
      · have hd2 := on.d hdl
        rw [c2t _ hd2.2.1, br_false]
        exact ih _ _ _ _ _ _ _ _ _ _ _ _ _ (by omega) ⟨by omega, by omega, hn'.1, hn'.2⟩ ⟨⟨inv', fun _ => hd2.2, (fun h => by cases h)⟩, hk⟩
    · simp only [br_true]
      have hst := (hI.o1 rfl).1
      have hka := (hI.o1 rfl).2
      dsimp only at hst hka
      refine chk_dec (by omega) (br_eq (fun _ => ?_) (fun _ => ?_))
      · have ea : answL ⟨kn, kst, ka, kc, kl, ks, kq, kt⟩ [IntKind.u8.wrap i] = (idleL ⟨kn, kst, ka, kc, kl, ks, kq, kt⟩, [⟨ka, 3, 1, 0, true, [IntKind.u8.wrap i]⟩], 0) := by
          rw [answL, if_neg (by show ¬ kst ≠ 2; omega), if_neg (by show ¬ splitE 3 1 ≠ 0; decide)]
          rfl
        rw [ea]
        refine br_ne (fun h => absurd rfl h) (fun _ => br_ne (fun h => absurd rfl h) (fun _ => chk_of rfl (br_ne (fun h => absurd hka h) (fun _ => ?_))))
        exact ih _ _ _ _ _ _ _ _ _ _ _ _ _ (by omega) ⟨by omega, by omega, a1.1, a1.2⟩ ⟨⟨(show LInv (idleL ⟨kn, kst, ka, kc, kl, ks, kq, kt⟩) from idle_inv hI.inv), (fun h => by cases h), fun _ => by show (0 : Int) ≠ 2; decide⟩, hk⟩
      · refine chk_dec (by omega) ?_
        intro r n' hr hl hn'
        refine chk_dec ⟨by omega, by omega, by omega⟩ (fun k' o' e => ?_)
        have e' : recvL ⟨kn, kst, ka, kc, kl, ks, kq, kt⟩ i r = (k', o') := e
        have inv' := recv_inv (k := ⟨kn, kst, ka, kc, kl, ks, kq, kt⟩) (now := i) (p := r) hI.inv
        have on := recv_once ⟨kn, kst, ka, kc, kl, ks, kq, kt⟩ i r hI.inv
        rw [e'] at inv' on
        dsimp only at inv' on
        cases hdl : o'.dl <;> cases hcn : o'.cn <;> simp only [Bool.not_true, Bool.not_false, br_true, br_false]
        · rcases on.b hdl hst with hb | hb
          · rw [c2t _ hb.1, br_false]
            exact ih _ _ _ _ _ _ _ _ _ _ _ _ _ (by omega) ⟨by omega, by omega, hn'.1, hn'.2⟩ ⟨⟨inv', fun _ => ⟨hb.1, hb.2.trans hka⟩, (fun h => by cases h)⟩, hk⟩
          · rw [hcn] at hb
            cases hb.2
        · refine br_eq (fun h0 => ?_) (fun h0 => ?_)
          · rw [c2f _ (by omega), br_false]
            exact ih _ _ _ _ _ _ _ _ _ _ _ _ _ (by omega) ⟨by omega, by omega, hn'.1, hn'.2⟩ ⟨⟨inv', (fun h => by cases h), fun _ => (fun (e2 : k'.st = 2) => by rw [h0] at e2; cases e2)⟩, hk⟩
          · rcases on.b hdl hst with hb | hb
            · rw [c2t _ hb.1, br_false]
              exact ih _ _ _ _ _ _ _ _ _ _ _ _ _ (by omega) ⟨by omega, by omega, hn'.1, hn'.2⟩ ⟨⟨inv', fun _ => ⟨hb.1, hb.2.trans hka⟩, (fun h => by cases h)⟩, hk⟩
            · exact absurd hb.1 h0
        · exact absurd hst (on.d hdl).1
        · exact absurd hst (on.d hdl).1
theorem l13_7 : ∀ s k, L13_7 s k → Tri Proofs.Try.prog 99 (.loop (loopAt Proofs.Try.f13 7)) s k := by
  intro s k h
  unfold L13_7 at h
  split at h
  · obtain ⟨h1, h2⟩ := chk_iff.1 h
    exact iter_ok (c := c13_0) gamL_ok (l := u13) a13 rfl mixed_ok (by kernel_rfl) (ls := []) rfl (.inl rfl) trivial (kps := kp13_7) (tr := tr13_7) (_) (i13_7 k _ _ _ _ _ _ _ _ _ _ _ _ _ _ (Nat.lt_succ_self _) (of_decide_eq_true h1) h2)
  · exact h.elim
theorem p13_0 (l : List Int) (post : AV → Option AV → Prop) (hin : InRL [.ints false .i64 l]) (hie : InRO none) (h : post (.bool true) none) : Ok (runF c13 pm13 Proofs.Try.f13 [.ints false .i64 l] none (post)) := by
  refine ⟨?_⟩
  rw [t13_0]
  refine ⟨⟨⟨by show (0 : Int) ≤ 3; decide, by show (3 : Int) ≤ 32; decide, Int.le_refl 0, (show (0 : Int) ≤ 1099511627776 by decide), Int.le_refl 0, (show (0 : Int) ≤ 4096 by decide), Int.le_refl 0, (fun h => by cases h), .inl rfl⟩, (fun h => by cases h), fun _ => by show (0 : Int) ≠ 2; decide⟩, h⟩
theorem k13 : Keeps Proofs.Try.prog 13 S13 := by
  refine ⟨?_, Proofs.Try.f13, by kernel_rfl, by kernel_rfl, by kernel_rfl⟩
  intro args e post h
  unfold S13 at h
  split at h
  · refine Spec.inR fun hin hie => fun_ok' (c := c13) gamL_ok (l := u13) a13 rfl mixed_ok (fn := Proofs.Try.f13) (show Proofs.Try.prog.funcs[13]? = some Proofs.Try.f13 by kernel_rfl) (by kernel_rfl) (ls := [(7, L13_7)]) rfl (.inr (by kernel_rfl)) ⟨l13_7, trivial⟩ (pm := pm13) (by simp [c13]) (by rintro ⟨t, l, h⟩; cases h) ?_
    exact p13_0 _ _ hin hie h
  · exact h.elim
end Go.Proofs.Ytokeanadhihlfaa.V
