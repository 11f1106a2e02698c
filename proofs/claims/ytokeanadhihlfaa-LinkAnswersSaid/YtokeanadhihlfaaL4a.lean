import Derived.Test.YtokeanadhihlfaaPlans
import Derived.Test.YtokeanadhihlfaaMB
import Derived.Test.YtokeanadhihlfaaProg
import Derived.Test.YtokeanadhihlfaaS0
import Derived.Test.YtokeanadhihlfaaS1
import Derived.Test.YtokeanadhihlfaaS2
import Derived.Test.YtokeanadhihlfaaS3
import Derived.Test.YtokeanadhihlfaaS4
import Derived.Test.YtokeanadhihlfaaB1
import Derived.Test.YtokeanadhihlfaaP6
import Derived.Test.YtokeanadhihlfaaL1
import Derived.Test.YtokeanadhihlfaaL2
import Derived.Test.YtokeanadhihlfaaL3
import Derived.Test.YtokeanadhihlfaaPlansB
import Derived.KernelRfl
set_option linter.all false
set_option maxHeartbeats 1000000
namespace Go.Proofs.Ytokeanadhihlfaa.V
open Go
def poS : Shp := .a [.s, .s, .s, .i .u8, .s]
theorem tick_small (k : Lk) (now : Int) (h1 : k.s.length ≤ 100000) (h2 : -1000000 ≤ k.len) (h3 : k.len ≤ 1000000) :
    (tickL k now).1.s.length ≤ 100000 ∧ -1000000 ≤ (tickL k now).1.len ∧ (tickL k now).1.len ≤ 1000000 ∧ (tickL k now).2.ps.length ≤ 100000 := by
  unfold tickL
  split
  · exact ⟨h1, h2, h3, by show 0 ≤ 100000; omega⟩
  · refine ⟨by show 0 ≤ 100000; omega, by show (-1000000 : Int) ≤ 0; omega, by show (0 : Int) ≤ 1000000; omega, ?_⟩
    have := splitL_short k.a 63 [IntKind.u8.wrap 19]
    show ([] ++ splitL k.a 63 [IntKind.u8.wrap 19]).length ≤ 100000
    rw [List.nil_append]
    omega
theorem tickR_small (k : Lk) (now : Int) (h1 : k.s.length ≤ 100000) (h2 : -1000000 ≤ k.len) (h3 : k.len ≤ 1000000) :
    (tickR k now).1.s.length ≤ 100000 ∧ -1000000 ≤ (tickR k now).1.len ∧ (tickR k now).1.len ≤ 1000000 ∧ (tickR k now).2.ps.length ≤ 100000 := by
  unfold tickR
  split
  · exact ⟨h1, h2, h3, by show 0 ≤ 100000; omega⟩
  · refine ⟨by show 0 ≤ 100000; omega, by show (-1000000 : Int) ≤ 0; omega, by show (0 : Int) ≤ 1000000; omega, ?_⟩
    have := splitL_short k.a 63 [IntKind.u8.wrap 19]
    show ([] ++ splitL k.a 63 [IntKind.u8.wrap 19]).length ≤ 100000
    rw [List.nil_append]
    omega
theorem ok_any {r : Rec} (h : okR r) : 0 ≤ r.c ∧ r.c ≤ 65535 ∧ r.s.length ≤ 59 := by
  cases hf : r.f with
  | true => have := ok_first h hf; omega
  | false => have := ok_next h hf; omega
theorem pad_any {r : Rec} (h : okR r) : 57 ≤ (padR r).s.length ∧ (padR r).s.length ≤ 59 := by
  have := pad_len r h
  cases hf : r.f with
  | true => rw [hf] at this; simp only at this; omega
  | false => rw [hf] at this; simp only at this; omega
def pm42 : Pm := ⟨[lkS, .s, pkS], .no, [lkS, ouR]⟩
def u42 : List (Nat × Tr) := [(40, S40), (60, S60), (62, S62), (63, S63), (64, S64), (65, S65), (66, S66), (67, S67)]
theorem a42 : AllKeep Proofs.Try.prog u42 := ⟨k40, k60, k62, k63, k64, k65, k66, k67, trivial⟩

def c42 : Cfg := { n := 101, Γ := GamL, C := ofL u42, pm := pmL [(40, pm40), (60, pm60), (62, pm62), (63, pm63), (64, pm64), (65, pm65), (66, pm66), (67, pm67)], plan := planB42, L := lpL [], unroll := nmL [], keep := kpL [] }
def S42 : Tr
  | [.agg [.int .i64 kn, .int .i64 kst, .int .u32 ka, .int .i64 kc, .int .i64 kl, .ints false .u8 ks, .int .i64 kq, .int .i64 kt], .int .i64 now, .agg [.int .u32 a, .bool f, .int .i64 b, .int .i64 c, .int .i64 d, .ints false .u8 s]], none, post => chk (decide (ks.length ≤ 100000 ∧ -1000000 ≤ kl ∧ kl ≤ 1000000)) (∀ k' o', recvL ⟨kn, kst, ka, kc, kl, ks, kq, kt⟩ now ⟨a, b, c, d, f, s⟩ = (k', o') → post (.tup [k'.V, o'.E]) (some o'.M))
  | _, _, _ => False
theorem t42_0 (kn kst ka kc kl kq kt : Int) (ks : List Int) (now : Int) (a b c d : Int) (f : Bool) (s : List Int) (post : AV → Option AV → Prop) : runF c42 pm42 Proofs.Try.f42 [.agg [.int .i64 kn, .int .i64 kst, .int .u32 ka, .int .i64 kc, .int .i64 kl, .ints false .u8 ks, .int .i64 kq, .int .i64 kt], .int .i64 now, .agg [.int .u32 a, .bool f, .int .i64 b, .int .i64 c, .int .i64 d, .ints false .u8 s]] none post = (br (decide (now < (0 : Int)))
     (post
     (AV.tup
     [AV.agg
     [AV.int IntKind.i64 kn, AV.int IntKind.i64 kst, AV.int IntKind.u32 ka, AV.int IntKind.i64 kc,
     AV.int IntKind.i64 kl, AV.ints false IntKind.u8 ks, AV.int IntKind.i64 kq, AV.int IntKind.i64 kt],
     AV.agg [AV.ownf (1000 : Nat), AV.bool false, AV.ints false IntKind.u8 [], AV.bool false]])
     (some (AV.linr (38 : Nat) (0 : Nat) [])))
     (br (decide (now > (1099511627776 : Int)))
     (post
     (AV.tup
     [AV.agg
     [AV.int IntKind.i64 kn, AV.int IntKind.i64 kst, AV.int IntKind.u32 ka, AV.int IntKind.i64 kc,
     AV.int IntKind.i64 kl, AV.ints false IntKind.u8 ks, AV.int IntKind.i64 kq, AV.int IntKind.i64 kt],
     AV.agg [AV.ownf (1000 : Nat), AV.bool false, AV.ints false IntKind.u8 [], AV.bool false]])
     (some (AV.linr (38 : Nat) (0 : Nat) [])))
     (br (!decide (chkE f b c d s.length = (0 : Int)))
     (post
     (AV.tup
     [AV.agg
     [AV.int IntKind.i64 (tickL (Lk.mk kn kst ka kc kl ks kq kt) now).fst.n,
     AV.int IntKind.i64 (tickL (Lk.mk kn kst ka kc kl ks kq kt) now).fst.st,
     AV.int IntKind.u32 (tickL (Lk.mk kn kst ka kc kl ks kq kt) now).fst.a,
     AV.int IntKind.i64 (tickL (Lk.mk kn kst ka kc kl ks kq kt) now).fst.cmd,
     AV.int IntKind.i64 (tickL (Lk.mk kn kst ka kc kl ks kq kt) now).fst.len,
     AV.ints false IntKind.u8 (tickL (Lk.mk kn kst ka kc kl ks kq kt) now).fst.s,
     AV.int IntKind.i64 (tickL (Lk.mk kn kst ka kc kl ks kq kt) now).fst.q,
     AV.int IntKind.i64 (tickL (Lk.mk kn kst ka kc kl ks kq kt) now).fst.t],
     AV.agg
     [AV.ownf (1000 : Nat), AV.bool (tickL (Lk.mk kn kst ka kc kl ks kq kt) now).snd.dl,
     AV.ints false IntKind.u8 (tickL (Lk.mk kn kst ka kc kl ks kq kt) now).snd.ms,
     AV.bool (tickL (Lk.mk kn kst ka kc kl ks kq kt) now).snd.cn]])
     (some (AV.linr (38 : Nat) (0 : Nat) (tickL (Lk.mk kn kst ka kc kl ks kq kt) now).snd.ps)))
     (br (!(fillR (Rec.mk a b c d f s)).5)
     (chk
     (decide
     ((tickL (Lk.mk kn kst ka kc kl ks kq kt) now).snd.ps.length ≤ (100000 : Nat) ∧
     (tickL (Lk.mk kn kst ka kc kl ks kq kt) now).fst.s.length ≤ (100000 : Nat) ∧
     (fillR (Rec.mk a b c d f s)).6.length ≤ (100000 : Nat) ∧
     (-1000000 : Int) ≤ (tickL (Lk.mk kn kst ka kc kl ks kq kt) now).fst.len ∧
     (tickL (Lk.mk kn kst ka kc kl ks kq kt) now).fst.len ≤ (1000000 : Int) ∧
     (0 : Int) ≤ (fillR (Rec.mk a b c d f s)).3 ∧ (fillR (Rec.mk a b c d f s)).3 ≤ (1000000 : Int)))
     (post
     (AV.tup
     [AV.agg
     [AV.int IntKind.i64
     (procL
     (Lk.mk (tickL (Lk.mk kn kst ka kc kl ks kq kt) now).fst.n
     (tickL (Lk.mk kn kst ka kc kl ks kq kt) now).fst.st
     (tickL (Lk.mk kn kst ka kc kl ks kq kt) now).fst.a
     (tickL (Lk.mk kn kst ka kc kl ks kq kt) now).fst.cmd
     (tickL (Lk.mk kn kst ka kc kl ks kq kt) now).fst.len
     (tickL (Lk.mk kn kst ka kc kl ks kq kt) now).fst.s
     (tickL (Lk.mk kn kst ka kc kl ks kq kt) now).fst.q
     (tickL (Lk.mk kn kst ka kc kl ks kq kt) now).fst.t)
     (Ou.mk (tickL (Lk.mk kn kst ka kc kl ks kq kt) now).snd.ps
     (tickL (Lk.mk kn kst ka kc kl ks kq kt) now).snd.dl
     (tickL (Lk.mk kn kst ka kc kl ks kq kt) now).snd.ms
     (tickL (Lk.mk kn kst ka kc kl ks kq kt) now).snd.cn)
     now
     (Rec.mk (fillR (Rec.mk a b c d f s)).1 (fillR (Rec.mk a b c d f s)).2
     (fillR (Rec.mk a b c d f s)).3 (fillR (Rec.mk a b c d f s)).4
     (fillR (Rec.mk a b c d f s)).5 (fillR (Rec.mk a b c d f s)).6)).fst.n,
     AV.int IntKind.i64
     (procL
     (Lk.mk (tickL (Lk.mk kn kst ka kc kl ks kq kt) now).fst.n
     (tickL (Lk.mk kn kst ka kc kl ks kq kt) now).fst.st
     (tickL (Lk.mk kn kst ka kc kl ks kq kt) now).fst.a
     (tickL (Lk.mk kn kst ka kc kl ks kq kt) now).fst.cmd
     (tickL (Lk.mk kn kst ka kc kl ks kq kt) now).fst.len
     (tickL (Lk.mk kn kst ka kc kl ks kq kt) now).fst.s
     (tickL (Lk.mk kn kst ka kc kl ks kq kt) now).fst.q
     (tickL (Lk.mk kn kst ka kc kl ks kq kt) now).fst.t)
     (Ou.mk (tickL (Lk.mk kn kst ka kc kl ks kq kt) now).snd.ps
     (tickL (Lk.mk kn kst ka kc kl ks kq kt) now).snd.dl
     (tickL (Lk.mk kn kst ka kc kl ks kq kt) now).snd.ms
     (tickL (Lk.mk kn kst ka kc kl ks kq kt) now).snd.cn)
     now
     (Rec.mk (fillR (Rec.mk a b c d f s)).1 (fillR (Rec.mk a b c d f s)).2
     (fillR (Rec.mk a b c d f s)).3 (fillR (Rec.mk a b c d f s)).4
     (fillR (Rec.mk a b c d f s)).5 (fillR (Rec.mk a b c d f s)).6)).fst.st,
     AV.int IntKind.u32
     (procL
     (Lk.mk (tickL (Lk.mk kn kst ka kc kl ks kq kt) now).fst.n
     (tickL (Lk.mk kn kst ka kc kl ks kq kt) now).fst.st
     (tickL (Lk.mk kn kst ka kc kl ks kq kt) now).fst.a
     (tickL (Lk.mk kn kst ka kc kl ks kq kt) now).fst.cmd
     (tickL (Lk.mk kn kst ka kc kl ks kq kt) now).fst.len
     (tickL (Lk.mk kn kst ka kc kl ks kq kt) now).fst.s
     (tickL (Lk.mk kn kst ka kc kl ks kq kt) now).fst.q
     (tickL (Lk.mk kn kst ka kc kl ks kq kt) now).fst.t)
     (Ou.mk (tickL (Lk.mk kn kst ka kc kl ks kq kt) now).snd.ps
     (tickL (Lk.mk kn kst ka kc kl ks kq kt) now).snd.dl
     (tickL (Lk.mk kn kst ka kc kl ks kq kt) now).snd.ms
     (tickL (Lk.mk kn kst ka kc kl ks kq kt) now).snd.cn)
     now
     (Rec.mk (fillR (Rec.mk a b c d f s)).1 (fillR (Rec.mk a b c d f s)).2
     (fillR (Rec.mk a b c d f s)).3 (fillR (Rec.mk a b c d f s)).4
     (fillR (Rec.mk a b c d f s)).5 (fillR (Rec.mk a b c d f s)).6)).fst.a,
     AV.int IntKind.i64
     (procL
     (Lk.mk (tickL (Lk.mk kn kst ka kc kl ks kq kt) now).fst.n
     (tickL (Lk.mk kn kst ka kc kl ks kq kt) now).fst.st
     (tickL (Lk.mk kn kst ka kc kl ks kq kt) now).fst.a
     (tickL (Lk.mk kn kst ka kc kl ks kq kt) now).fst.cmd
     (tickL (Lk.mk kn kst ka kc kl ks kq kt) now).fst.len
     (tickL (Lk.mk kn kst ka kc kl ks kq kt) now).fst.s
     (tickL (Lk.mk kn kst ka kc kl ks kq kt) now).fst.q
     (tickL (Lk.mk kn kst ka kc kl ks kq kt) now).fst.t)
     (Ou.mk (tickL (Lk.mk kn kst ka kc kl ks kq kt) now).snd.ps
     (tickL (Lk.mk kn kst ka kc kl ks kq kt) now).snd.dl
     (tickL (Lk.mk kn kst ka kc kl ks kq kt) now).snd.ms
     (tickL (Lk.mk kn kst ka kc kl ks kq kt) now).snd.cn)
     now
     (Rec.mk (fillR (Rec.mk a b c d f s)).1 (fillR (Rec.mk a b c d f s)).2
     (fillR (Rec.mk a b c d f s)).3 (fillR (Rec.mk a b c d f s)).4
     (fillR (Rec.mk a b c d f s)).5 (fillR (Rec.mk a b c d f s)).6)).fst.cmd,
     AV.int IntKind.i64
     (procL
     (Lk.mk (tickL (Lk.mk kn kst ka kc kl ks kq kt) now).fst.n
     (tickL (Lk.mk kn kst ka kc kl ks kq kt) now).fst.st
     (tickL (Lk.mk kn kst ka kc kl ks kq kt) now).fst.a
     (tickL (Lk.mk kn kst ka kc kl ks kq kt) now).fst.cmd
     (tickL (Lk.mk kn kst ka kc kl ks kq kt) now).fst.len
     (tickL (Lk.mk kn kst ka kc kl ks kq kt) now).fst.s
     (tickL (Lk.mk kn kst ka kc kl ks kq kt) now).fst.q
     (tickL (Lk.mk kn kst ka kc kl ks kq kt) now).fst.t)
     (Ou.mk (tickL (Lk.mk kn kst ka kc kl ks kq kt) now).snd.ps
     (tickL (Lk.mk kn kst ka kc kl ks kq kt) now).snd.dl
     (tickL (Lk.mk kn kst ka kc kl ks kq kt) now).snd.ms
     (tickL (Lk.mk kn kst ka kc kl ks kq kt) now).snd.cn)
     now
     (Rec.mk (fillR (Rec.mk a b c d f s)).1 (fillR (Rec.mk a b c d f s)).2
     (fillR (Rec.mk a b c d f s)).3 (fillR (Rec.mk a b c d f s)).4
     (fillR (Rec.mk a b c d f s)).5 (fillR (Rec.mk a b c d f s)).6)).fst.len,
     AV.ints false IntKind.u8
     (procL
     (Lk.mk (tickL (Lk.mk kn kst ka kc kl ks kq kt) now).fst.n
     (tickL (Lk.mk kn kst ka kc kl ks kq kt) now).fst.st
     (tickL (Lk.mk kn kst ka kc kl ks kq kt) now).fst.a
     (tickL (Lk.mk kn kst ka kc kl ks kq kt) now).fst.cmd
     (tickL (Lk.mk kn kst ka kc kl ks kq kt) now).fst.len
     (tickL (Lk.mk kn kst ka kc kl ks kq kt) now).fst.s
     (tickL (Lk.mk kn kst ka kc kl ks kq kt) now).fst.q
     (tickL (Lk.mk kn kst ka kc kl ks kq kt) now).fst.t)
     (Ou.mk (tickL (Lk.mk kn kst ka kc kl ks kq kt) now).snd.ps
     (tickL (Lk.mk kn kst ka kc kl ks kq kt) now).snd.dl
     (tickL (Lk.mk kn kst ka kc kl ks kq kt) now).snd.ms
     (tickL (Lk.mk kn kst ka kc kl ks kq kt) now).snd.cn)
     now
     (Rec.mk (fillR (Rec.mk a b c d f s)).1 (fillR (Rec.mk a b c d f s)).2
     (fillR (Rec.mk a b c d f s)).3 (fillR (Rec.mk a b c d f s)).4
     (fillR (Rec.mk a b c d f s)).5 (fillR (Rec.mk a b c d f s)).6)).fst.s,
     AV.int IntKind.i64
     (procL
     (Lk.mk (tickL (Lk.mk kn kst ka kc kl ks kq kt) now).fst.n
     (tickL (Lk.mk kn kst ka kc kl ks kq kt) now).fst.st
     (tickL (Lk.mk kn kst ka kc kl ks kq kt) now).fst.a
     (tickL (Lk.mk kn kst ka kc kl ks kq kt) now).fst.cmd
     (tickL (Lk.mk kn kst ka kc kl ks kq kt) now).fst.len
     (tickL (Lk.mk kn kst ka kc kl ks kq kt) now).fst.s
     (tickL (Lk.mk kn kst ka kc kl ks kq kt) now).fst.q
     (tickL (Lk.mk kn kst ka kc kl ks kq kt) now).fst.t)
     (Ou.mk (tickL (Lk.mk kn kst ka kc kl ks kq kt) now).snd.ps
     (tickL (Lk.mk kn kst ka kc kl ks kq kt) now).snd.dl
     (tickL (Lk.mk kn kst ka kc kl ks kq kt) now).snd.ms
     (tickL (Lk.mk kn kst ka kc kl ks kq kt) now).snd.cn)
     now
     (Rec.mk (fillR (Rec.mk a b c d f s)).1 (fillR (Rec.mk a b c d f s)).2
     (fillR (Rec.mk a b c d f s)).3 (fillR (Rec.mk a b c d f s)).4
     (fillR (Rec.mk a b c d f s)).5 (fillR (Rec.mk a b c d f s)).6)).fst.q,
     AV.int IntKind.i64
     (procL
     (Lk.mk (tickL (Lk.mk kn kst ka kc kl ks kq kt) now).fst.n
     (tickL (Lk.mk kn kst ka kc kl ks kq kt) now).fst.st
     (tickL (Lk.mk kn kst ka kc kl ks kq kt) now).fst.a
     (tickL (Lk.mk kn kst ka kc kl ks kq kt) now).fst.cmd
     (tickL (Lk.mk kn kst ka kc kl ks kq kt) now).fst.len
     (tickL (Lk.mk kn kst ka kc kl ks kq kt) now).fst.s
     (tickL (Lk.mk kn kst ka kc kl ks kq kt) now).fst.q
     (tickL (Lk.mk kn kst ka kc kl ks kq kt) now).fst.t)
     (Ou.mk (tickL (Lk.mk kn kst ka kc kl ks kq kt) now).snd.ps
     (tickL (Lk.mk kn kst ka kc kl ks kq kt) now).snd.dl
     (tickL (Lk.mk kn kst ka kc kl ks kq kt) now).snd.ms
     (tickL (Lk.mk kn kst ka kc kl ks kq kt) now).snd.cn)
     now
     (Rec.mk (fillR (Rec.mk a b c d f s)).1 (fillR (Rec.mk a b c d f s)).2
     (fillR (Rec.mk a b c d f s)).3 (fillR (Rec.mk a b c d f s)).4
     (fillR (Rec.mk a b c d f s)).5 (fillR (Rec.mk a b c d f s)).6)).fst.t],
     AV.agg
     [AV.ownf (1000 : Nat),
     AV.bool
     (procL
     (Lk.mk (tickL (Lk.mk kn kst ka kc kl ks kq kt) now).fst.n
     (tickL (Lk.mk kn kst ka kc kl ks kq kt) now).fst.st
     (tickL (Lk.mk kn kst ka kc kl ks kq kt) now).fst.a
     (tickL (Lk.mk kn kst ka kc kl ks kq kt) now).fst.cmd
     (tickL (Lk.mk kn kst ka kc kl ks kq kt) now).fst.len
     (tickL (Lk.mk kn kst ka kc kl ks kq kt) now).fst.s
     (tickL (Lk.mk kn kst ka kc kl ks kq kt) now).fst.q
     (tickL (Lk.mk kn kst ka kc kl ks kq kt) now).fst.t)
     (Ou.mk (tickL (Lk.mk kn kst ka kc kl ks kq kt) now).snd.ps
     (tickL (Lk.mk kn kst ka kc kl ks kq kt) now).snd.dl
     (tickL (Lk.mk kn kst ka kc kl ks kq kt) now).snd.ms
     (tickL (Lk.mk kn kst ka kc kl ks kq kt) now).snd.cn)
     now
     (Rec.mk (fillR (Rec.mk a b c d f s)).1 (fillR (Rec.mk a b c d f s)).2
     (fillR (Rec.mk a b c d f s)).3 (fillR (Rec.mk a b c d f s)).4
     (fillR (Rec.mk a b c d f s)).5 (fillR (Rec.mk a b c d f s)).6)).snd.dl,
     AV.ints false IntKind.u8
     (procL
     (Lk.mk (tickL (Lk.mk kn kst ka kc kl ks kq kt) now).fst.n
     (tickL (Lk.mk kn kst ka kc kl ks kq kt) now).fst.st
     (tickL (Lk.mk kn kst ka kc kl ks kq kt) now).fst.a
     (tickL (Lk.mk kn kst ka kc kl ks kq kt) now).fst.cmd
     (tickL (Lk.mk kn kst ka kc kl ks kq kt) now).fst.len
     (tickL (Lk.mk kn kst ka kc kl ks kq kt) now).fst.s
     (tickL (Lk.mk kn kst ka kc kl ks kq kt) now).fst.q
     (tickL (Lk.mk kn kst ka kc kl ks kq kt) now).fst.t)
     (Ou.mk (tickL (Lk.mk kn kst ka kc kl ks kq kt) now).snd.ps
     (tickL (Lk.mk kn kst ka kc kl ks kq kt) now).snd.dl
     (tickL (Lk.mk kn kst ka kc kl ks kq kt) now).snd.ms
     (tickL (Lk.mk kn kst ka kc kl ks kq kt) now).snd.cn)
     now
     (Rec.mk (fillR (Rec.mk a b c d f s)).1 (fillR (Rec.mk a b c d f s)).2
     (fillR (Rec.mk a b c d f s)).3 (fillR (Rec.mk a b c d f s)).4
     (fillR (Rec.mk a b c d f s)).5 (fillR (Rec.mk a b c d f s)).6)).snd.ms,
     AV.bool
     (procL
     (Lk.mk (tickL (Lk.mk kn kst ka kc kl ks kq kt) now).fst.n
     (tickL (Lk.mk kn kst ka kc kl ks kq kt) now).fst.st
     (tickL (Lk.mk kn kst ka kc kl ks kq kt) now).fst.a
     (tickL (Lk.mk kn kst ka kc kl ks kq kt) now).fst.cmd
     (tickL (Lk.mk kn kst ka kc kl ks kq kt) now).fst.len
     (tickL (Lk.mk kn kst ka kc kl ks kq kt) now).fst.s
     (tickL (Lk.mk kn kst ka kc kl ks kq kt) now).fst.q
     (tickL (Lk.mk kn kst ka kc kl ks kq kt) now).fst.t)
     (Ou.mk (tickL (Lk.mk kn kst ka kc kl ks kq kt) now).snd.ps
     (tickL (Lk.mk kn kst ka kc kl ks kq kt) now).snd.dl
     (tickL (Lk.mk kn kst ka kc kl ks kq kt) now).snd.ms
     (tickL (Lk.mk kn kst ka kc kl ks kq kt) now).snd.cn)
     now
     (Rec.mk (fillR (Rec.mk a b c d f s)).1 (fillR (Rec.mk a b c d f s)).2
     (fillR (Rec.mk a b c d f s)).3 (fillR (Rec.mk a b c d f s)).4
     (fillR (Rec.mk a b c d f s)).5 (fillR (Rec.mk a b c d f s)).6)).snd.cn]])
     (some
     (AV.linr (38 : Nat) (0 : Nat)
     (procL
     (Lk.mk (tickL (Lk.mk kn kst ka kc kl ks kq kt) now).fst.n
     (tickL (Lk.mk kn kst ka kc kl ks kq kt) now).fst.st
     (tickL (Lk.mk kn kst ka kc kl ks kq kt) now).fst.a
     (tickL (Lk.mk kn kst ka kc kl ks kq kt) now).fst.cmd
     (tickL (Lk.mk kn kst ka kc kl ks kq kt) now).fst.len
     (tickL (Lk.mk kn kst ka kc kl ks kq kt) now).fst.s
     (tickL (Lk.mk kn kst ka kc kl ks kq kt) now).fst.q
     (tickL (Lk.mk kn kst ka kc kl ks kq kt) now).fst.t)
     (Ou.mk (tickL (Lk.mk kn kst ka kc kl ks kq kt) now).snd.ps
     (tickL (Lk.mk kn kst ka kc kl ks kq kt) now).snd.dl
     (tickL (Lk.mk kn kst ka kc kl ks kq kt) now).snd.ms
     (tickL (Lk.mk kn kst ka kc kl ks kq kt) now).snd.cn)
     now
     (Rec.mk (fillR (Rec.mk a b c d f s)).1 (fillR (Rec.mk a b c d f s)).2
     (fillR (Rec.mk a b c d f s)).3 (fillR (Rec.mk a b c d f s)).4 (fillR (Rec.mk a b c d f s)).5
     (fillR (Rec.mk a b c d f s)).6)).snd.ps))))
     (br ((fillR (Rec.mk a b c d f s)).1 == (4294967295 : Int))
     (chk
     (decide
     ((tickL (Lk.mk kn kst ka kc kl ks kq kt) now).snd.ps.length ≤ (100000 : Nat) ∧
     (8 : Nat) ≤ (fillR (Rec.mk a b c d f s)).6.length))
     (post
     (AV.tup
     [AV.agg
     [AV.int IntKind.i64
     (allocL
     (Lk.mk (tickL (Lk.mk kn kst ka kc kl ks kq kt) now).fst.n
     (tickL (Lk.mk kn kst ka kc kl ks kq kt) now).fst.st
     (tickL (Lk.mk kn kst ka kc kl ks kq kt) now).fst.a
     (tickL (Lk.mk kn kst ka kc kl ks kq kt) now).fst.cmd
     (tickL (Lk.mk kn kst ka kc kl ks kq kt) now).fst.len
     (tickL (Lk.mk kn kst ka kc kl ks kq kt) now).fst.s
     (tickL (Lk.mk kn kst ka kc kl ks kq kt) now).fst.q
     (tickL (Lk.mk kn kst ka kc kl ks kq kt) now).fst.t)
     (Ou.mk (tickL (Lk.mk kn kst ka kc kl ks kq kt) now).snd.ps
     (tickL (Lk.mk kn kst ka kc kl ks kq kt) now).snd.dl
     (tickL (Lk.mk kn kst ka kc kl ks kq kt) now).snd.ms
     (tickL (Lk.mk kn kst ka kc kl ks kq kt) now).snd.cn)
     (Rec.mk (fillR (Rec.mk a b c d f s)).1 (fillR (Rec.mk a b c d f s)).2
     (fillR (Rec.mk a b c d f s)).3 (fillR (Rec.mk a b c d f s)).4
     (fillR (Rec.mk a b c d f s)).5 (fillR (Rec.mk a b c d f s)).6)).fst.n,
     AV.int IntKind.i64
     (allocL
     (Lk.mk (tickL (Lk.mk kn kst ka kc kl ks kq kt) now).fst.n
     (tickL (Lk.mk kn kst ka kc kl ks kq kt) now).fst.st
     (tickL (Lk.mk kn kst ka kc kl ks kq kt) now).fst.a
     (tickL (Lk.mk kn kst ka kc kl ks kq kt) now).fst.cmd
     (tickL (Lk.mk kn kst ka kc kl ks kq kt) now).fst.len
     (tickL (Lk.mk kn kst ka kc kl ks kq kt) now).fst.s
     (tickL (Lk.mk kn kst ka kc kl ks kq kt) now).fst.q
     (tickL (Lk.mk kn kst ka kc kl ks kq kt) now).fst.t)
     (Ou.mk (tickL (Lk.mk kn kst ka kc kl ks kq kt) now).snd.ps
     (tickL (Lk.mk kn kst ka kc kl ks kq kt) now).snd.dl
     (tickL (Lk.mk kn kst ka kc kl ks kq kt) now).snd.ms
     (tickL (Lk.mk kn kst ka kc kl ks kq kt) now).snd.cn)
     (Rec.mk (fillR (Rec.mk a b c d f s)).1 (fillR (Rec.mk a b c d f s)).2
     (fillR (Rec.mk a b c d f s)).3 (fillR (Rec.mk a b c d f s)).4
     (fillR (Rec.mk a b c d f s)).5 (fillR (Rec.mk a b c d f s)).6)).fst.st,
     AV.int IntKind.u32
     (allocL
     (Lk.mk (tickL (Lk.mk kn kst ka kc kl ks kq kt) now).fst.n
     (tickL (Lk.mk kn kst ka kc kl ks kq kt) now).fst.st
     (tickL (Lk.mk kn kst ka kc kl ks kq kt) now).fst.a
     (tickL (Lk.mk kn kst ka kc kl ks kq kt) now).fst.cmd
     (tickL (Lk.mk kn kst ka kc kl ks kq kt) now).fst.len
     (tickL (Lk.mk kn kst ka kc kl ks kq kt) now).fst.s
     (tickL (Lk.mk kn kst ka kc kl ks kq kt) now).fst.q
     (tickL (Lk.mk kn kst ka kc kl ks kq kt) now).fst.t)
     (Ou.mk (tickL (Lk.mk kn kst ka kc kl ks kq kt) now).snd.ps
     (tickL (Lk.mk kn kst ka kc kl ks kq kt) now).snd.dl
     (tickL (Lk.mk kn kst ka kc kl ks kq kt) now).snd.ms
     (tickL (Lk.mk kn kst ka kc kl ks kq kt) now).snd.cn)
     (Rec.mk (fillR (Rec.mk a b c d f s)).1 (fillR (Rec.mk a b c d f s)).2
     (fillR (Rec.mk a b c d f s)).3 (fillR (Rec.mk a b c d f s)).4
     (fillR (Rec.mk a b c d f s)).5 (fillR (Rec.mk a b c d f s)).6)).fst.a,
     AV.int IntKind.i64
     (allocL
     (Lk.mk (tickL (Lk.mk kn kst ka kc kl ks kq kt) now).fst.n
     (tickL (Lk.mk kn kst ka kc kl ks kq kt) now).fst.st
     (tickL (Lk.mk kn kst ka kc kl ks kq kt) now).fst.a
     (tickL (Lk.mk kn kst ka kc kl ks kq kt) now).fst.cmd
     (tickL (Lk.mk kn kst ka kc kl ks kq kt) now).fst.len
     (tickL (Lk.mk kn kst ka kc kl ks kq kt) now).fst.s
     (tickL (Lk.mk kn kst ka kc kl ks kq kt) now).fst.q
     (tickL (Lk.mk kn kst ka kc kl ks kq kt) now).fst.t)
     (Ou.mk (tickL (Lk.mk kn kst ka kc kl ks kq kt) now).snd.ps
     (tickL (Lk.mk kn kst ka kc kl ks kq kt) now).snd.dl
     (tickL (Lk.mk kn kst ka kc kl ks kq kt) now).snd.ms
     (tickL (Lk.mk kn kst ka kc kl ks kq kt) now).snd.cn)
     (Rec.mk (fillR (Rec.mk a b c d f s)).1 (fillR (Rec.mk a b c d f s)).2
     (fillR (Rec.mk a b c d f s)).3 (fillR (Rec.mk a b c d f s)).4
     (fillR (Rec.mk a b c d f s)).5 (fillR (Rec.mk a b c d f s)).6)).fst.cmd,
     AV.int IntKind.i64
     (allocL
     (Lk.mk (tickL (Lk.mk kn kst ka kc kl ks kq kt) now).fst.n
     (tickL (Lk.mk kn kst ka kc kl ks kq kt) now).fst.st
     (tickL (Lk.mk kn kst ka kc kl ks kq kt) now).fst.a
     (tickL (Lk.mk kn kst ka kc kl ks kq kt) now).fst.cmd
     (tickL (Lk.mk kn kst ka kc kl ks kq kt) now).fst.len
     (tickL (Lk.mk kn kst ka kc kl ks kq kt) now).fst.s
     (tickL (Lk.mk kn kst ka kc kl ks kq kt) now).fst.q
     (tickL (Lk.mk kn kst ka kc kl ks kq kt) now).fst.t)
     (Ou.mk (tickL (Lk.mk kn kst ka kc kl ks kq kt) now).snd.ps
     (tickL (Lk.mk kn kst ka kc kl ks kq kt) now).snd.dl
     (tickL (Lk.mk kn kst ka kc kl ks kq kt) now).snd.ms
     (tickL (Lk.mk kn kst ka kc kl ks kq kt) now).snd.cn)
     (Rec.mk (fillR (Rec.mk a b c d f s)).1 (fillR (Rec.mk a b c d f s)).2
     (fillR (Rec.mk a b c d f s)).3 (fillR (Rec.mk a b c d f s)).4
     (fillR (Rec.mk a b c d f s)).5 (fillR (Rec.mk a b c d f s)).6)).fst.len,
     AV.ints false IntKind.u8
     (allocL
     (Lk.mk (tickL (Lk.mk kn kst ka kc kl ks kq kt) now).fst.n
     (tickL (Lk.mk kn kst ka kc kl ks kq kt) now).fst.st
     (tickL (Lk.mk kn kst ka kc kl ks kq kt) now).fst.a
     (tickL (Lk.mk kn kst ka kc kl ks kq kt) now).fst.cmd
     (tickL (Lk.mk kn kst ka kc kl ks kq kt) now).fst.len
     (tickL (Lk.mk kn kst ka kc kl ks kq kt) now).fst.s
     (tickL (Lk.mk kn kst ka kc kl ks kq kt) now).fst.q
     (tickL (Lk.mk kn kst ka kc kl ks kq kt) now).fst.t)
     (Ou.mk (tickL (Lk.mk kn kst ka kc kl ks kq kt) now).snd.ps
     (tickL (Lk.mk kn kst ka kc kl ks kq kt) now).snd.dl
     (tickL (Lk.mk kn kst ka kc kl ks kq kt) now).snd.ms
     (tickL (Lk.mk kn kst ka kc kl ks kq kt) now).snd.cn)
     (Rec.mk (fillR (Rec.mk a b c d f s)).1 (fillR (Rec.mk a b c d f s)).2
     (fillR (Rec.mk a b c d f s)).3 (fillR (Rec.mk a b c d f s)).4
     (fillR (Rec.mk a b c d f s)).5 (fillR (Rec.mk a b c d f s)).6)).fst.s,
     AV.int IntKind.i64
     (allocL
     (Lk.mk (tickL (Lk.mk kn kst ka kc kl ks kq kt) now).fst.n
     (tickL (Lk.mk kn kst ka kc kl ks kq kt) now).fst.st
     (tickL (Lk.mk kn kst ka kc kl ks kq kt) now).fst.a
     (tickL (Lk.mk kn kst ka kc kl ks kq kt) now).fst.cmd
     (tickL (Lk.mk kn kst ka kc kl ks kq kt) now).fst.len
     (tickL (Lk.mk kn kst ka kc kl ks kq kt) now).fst.s
     (tickL (Lk.mk kn kst ka kc kl ks kq kt) now).fst.q
     (tickL (Lk.mk kn kst ka kc kl ks kq kt) now).fst.t)
     (Ou.mk (tickL (Lk.mk kn kst ka kc kl ks kq kt) now).snd.ps
     (tickL (Lk.mk kn kst ka kc kl ks kq kt) now).snd.dl
     (tickL (Lk.mk kn kst ka kc kl ks kq kt) now).snd.ms
     (tickL (Lk.mk kn kst ka kc kl ks kq kt) now).snd.cn)
     (Rec.mk (fillR (Rec.mk a b c d f s)).1 (fillR (Rec.mk a b c d f s)).2
     (fillR (Rec.mk a b c d f s)).3 (fillR (Rec.mk a b c d f s)).4
     (fillR (Rec.mk a b c d f s)).5 (fillR (Rec.mk a b c d f s)).6)).fst.q,
     AV.int IntKind.i64
     (allocL
     (Lk.mk (tickL (Lk.mk kn kst ka kc kl ks kq kt) now).fst.n
     (tickL (Lk.mk kn kst ka kc kl ks kq kt) now).fst.st
     (tickL (Lk.mk kn kst ka kc kl ks kq kt) now).fst.a
     (tickL (Lk.mk kn kst ka kc kl ks kq kt) now).fst.cmd
     (tickL (Lk.mk kn kst ka kc kl ks kq kt) now).fst.len
     (tickL (Lk.mk kn kst ka kc kl ks kq kt) now).fst.s
     (tickL (Lk.mk kn kst ka kc kl ks kq kt) now).fst.q
     (tickL (Lk.mk kn kst ka kc kl ks kq kt) now).fst.t)
     (Ou.mk (tickL (Lk.mk kn kst ka kc kl ks kq kt) now).snd.ps
     (tickL (Lk.mk kn kst ka kc kl ks kq kt) now).snd.dl
     (tickL (Lk.mk kn kst ka kc kl ks kq kt) now).snd.ms
     (tickL (Lk.mk kn kst ka kc kl ks kq kt) now).snd.cn)
     (Rec.mk (fillR (Rec.mk a b c d f s)).1 (fillR (Rec.mk a b c d f s)).2
     (fillR (Rec.mk a b c d f s)).3 (fillR (Rec.mk a b c d f s)).4
     (fillR (Rec.mk a b c d f s)).5 (fillR (Rec.mk a b c d f s)).6)).fst.t],
     AV.agg
     [AV.ownf (1000 : Nat),
     AV.bool
     (allocL
     (Lk.mk (tickL (Lk.mk kn kst ka kc kl ks kq kt) now).fst.n
     (tickL (Lk.mk kn kst ka kc kl ks kq kt) now).fst.st
     (tickL (Lk.mk kn kst ka kc kl ks kq kt) now).fst.a
     (tickL (Lk.mk kn kst ka kc kl ks kq kt) now).fst.cmd
     (tickL (Lk.mk kn kst ka kc kl ks kq kt) now).fst.len
     (tickL (Lk.mk kn kst ka kc kl ks kq kt) now).fst.s
     (tickL (Lk.mk kn kst ka kc kl ks kq kt) now).fst.q
     (tickL (Lk.mk kn kst ka kc kl ks kq kt) now).fst.t)
     (Ou.mk (tickL (Lk.mk kn kst ka kc kl ks kq kt) now).snd.ps
     (tickL (Lk.mk kn kst ka kc kl ks kq kt) now).snd.dl
     (tickL (Lk.mk kn kst ka kc kl ks kq kt) now).snd.ms
     (tickL (Lk.mk kn kst ka kc kl ks kq kt) now).snd.cn)
     (Rec.mk (fillR (Rec.mk a b c d f s)).1 (fillR (Rec.mk a b c d f s)).2
     (fillR (Rec.mk a b c d f s)).3 (fillR (Rec.mk a b c d f s)).4
     (fillR (Rec.mk a b c d f s)).5 (fillR (Rec.mk a b c d f s)).6)).snd.dl,
     AV.ints false IntKind.u8
     (allocL
     (Lk.mk (tickL (Lk.mk kn kst ka kc kl ks kq kt) now).fst.n
     (tickL (Lk.mk kn kst ka kc kl ks kq kt) now).fst.st
     (tickL (Lk.mk kn kst ka kc kl ks kq kt) now).fst.a
     (tickL (Lk.mk kn kst ka kc kl ks kq kt) now).fst.cmd
     (tickL (Lk.mk kn kst ka kc kl ks kq kt) now).fst.len
     (tickL (Lk.mk kn kst ka kc kl ks kq kt) now).fst.s
     (tickL (Lk.mk kn kst ka kc kl ks kq kt) now).fst.q
     (tickL (Lk.mk kn kst ka kc kl ks kq kt) now).fst.t)
     (Ou.mk (tickL (Lk.mk kn kst ka kc kl ks kq kt) now).snd.ps
     (tickL (Lk.mk kn kst ka kc kl ks kq kt) now).snd.dl
     (tickL (Lk.mk kn kst ka kc kl ks kq kt) now).snd.ms
     (tickL (Lk.mk kn kst ka kc kl ks kq kt) now).snd.cn)
     (Rec.mk (fillR (Rec.mk a b c d f s)).1 (fillR (Rec.mk a b c d f s)).2
     (fillR (Rec.mk a b c d f s)).3 (fillR (Rec.mk a b c d f s)).4
     (fillR (Rec.mk a b c d f s)).5 (fillR (Rec.mk a b c d f s)).6)).snd.ms,
     AV.bool
     (allocL
     (Lk.mk (tickL (Lk.mk kn kst ka kc kl ks kq kt) now).fst.n
     (tickL (Lk.mk kn kst ka kc kl ks kq kt) now).fst.st
     (tickL (Lk.mk kn kst ka kc kl ks kq kt) now).fst.a
     (tickL (Lk.mk kn kst ka kc kl ks kq kt) now).fst.cmd
     (tickL (Lk.mk kn kst ka kc kl ks kq kt) now).fst.len
     (tickL (Lk.mk kn kst ka kc kl ks kq kt) now).fst.s
     (tickL (Lk.mk kn kst ka kc kl ks kq kt) now).fst.q
     (tickL (Lk.mk kn kst ka kc kl ks kq kt) now).fst.t)
     (Ou.mk (tickL (Lk.mk kn kst ka kc kl ks kq kt) now).snd.ps
     (tickL (Lk.mk kn kst ka kc kl ks kq kt) now).snd.dl
     (tickL (Lk.mk kn kst ka kc kl ks kq kt) now).snd.ms
     (tickL (Lk.mk kn kst ka kc kl ks kq kt) now).snd.cn)
     (Rec.mk (fillR (Rec.mk a b c d f s)).1 (fillR (Rec.mk a b c d f s)).2
     (fillR (Rec.mk a b c d f s)).3 (fillR (Rec.mk a b c d f s)).4
     (fillR (Rec.mk a b c d f s)).5 (fillR (Rec.mk a b c d f s)).6)).snd.cn]])
     (some
     (AV.linr (38 : Nat) (0 : Nat)
     (allocL
     (Lk.mk (tickL (Lk.mk kn kst ka kc kl ks kq kt) now).fst.n
     (tickL (Lk.mk kn kst ka kc kl ks kq kt) now).fst.st
     (tickL (Lk.mk kn kst ka kc kl ks kq kt) now).fst.a
     (tickL (Lk.mk kn kst ka kc kl ks kq kt) now).fst.cmd
     (tickL (Lk.mk kn kst ka kc kl ks kq kt) now).fst.len
     (tickL (Lk.mk kn kst ka kc kl ks kq kt) now).fst.s
     (tickL (Lk.mk kn kst ka kc kl ks kq kt) now).fst.q
     (tickL (Lk.mk kn kst ka kc kl ks kq kt) now).fst.t)
     (Ou.mk (tickL (Lk.mk kn kst ka kc kl ks kq kt) now).snd.ps
     (tickL (Lk.mk kn kst ka kc kl ks kq kt) now).snd.dl
     (tickL (Lk.mk kn kst ka kc kl ks kq kt) now).snd.ms
     (tickL (Lk.mk kn kst ka kc kl ks kq kt) now).snd.cn)
     (Rec.mk (fillR (Rec.mk a b c d f s)).1 (fillR (Rec.mk a b c d f s)).2
     (fillR (Rec.mk a b c d f s)).3 (fillR (Rec.mk a b c d f s)).4 (fillR (Rec.mk a b c d f s)).5
     (fillR (Rec.mk a b c d f s)).6)).snd.ps))))
     (br (decide (IntKind.i64.wrap (fillR (Rec.mk a b c d f s)).1 < (1 : Int)))
     (chk (decide ((tickL (Lk.mk kn kst ka kc kl ks kq kt) now).snd.ps.length ≤ (100000 : Nat)))
     (post
     (AV.tup
     [AV.agg
     [AV.int IntKind.i64 (tickL (Lk.mk kn kst ka kc kl ks kq kt) now).fst.n,
     AV.int IntKind.i64 (tickL (Lk.mk kn kst ka kc kl ks kq kt) now).fst.st,
     AV.int IntKind.u32 (tickL (Lk.mk kn kst ka kc kl ks kq kt) now).fst.a,
     AV.int IntKind.i64 (tickL (Lk.mk kn kst ka kc kl ks kq kt) now).fst.cmd,
     AV.int IntKind.i64 (tickL (Lk.mk kn kst ka kc kl ks kq kt) now).fst.len,
     AV.ints false IntKind.u8 (tickL (Lk.mk kn kst ka kc kl ks kq kt) now).fst.s,
     AV.int IntKind.i64 (tickL (Lk.mk kn kst ka kc kl ks kq kt) now).fst.q,
     AV.int IntKind.i64 (tickL (Lk.mk kn kst ka kc kl ks kq kt) now).fst.t],
     AV.agg
     [AV.ownf (1000 : Nat),
     AV.bool
     (refuseO
     (Ou.mk (tickL (Lk.mk kn kst ka kc kl ks kq kt) now).snd.ps
     (tickL (Lk.mk kn kst ka kc kl ks kq kt) now).snd.dl
     (tickL (Lk.mk kn kst ka kc kl ks kq kt) now).snd.ms
     (tickL (Lk.mk kn kst ka kc kl ks kq kt) now).snd.cn)
     (fillR (Rec.mk a b c d f s)).1 (11 : Int)).dl,
     AV.ints false IntKind.u8
     (refuseO
     (Ou.mk (tickL (Lk.mk kn kst ka kc kl ks kq kt) now).snd.ps
     (tickL (Lk.mk kn kst ka kc kl ks kq kt) now).snd.dl
     (tickL (Lk.mk kn kst ka kc kl ks kq kt) now).snd.ms
     (tickL (Lk.mk kn kst ka kc kl ks kq kt) now).snd.cn)
     (fillR (Rec.mk a b c d f s)).1 (11 : Int)).ms,
     AV.bool
     (refuseO
     (Ou.mk (tickL (Lk.mk kn kst ka kc kl ks kq kt) now).snd.ps
     (tickL (Lk.mk kn kst ka kc kl ks kq kt) now).snd.dl
     (tickL (Lk.mk kn kst ka kc kl ks kq kt) now).snd.ms
     (tickL (Lk.mk kn kst ka kc kl ks kq kt) now).snd.cn)
     (fillR (Rec.mk a b c d f s)).1 (11 : Int)).cn]])
     (some
     (AV.linr (38 : Nat) (0 : Nat)
     (refuseO
     (Ou.mk (tickL (Lk.mk kn kst ka kc kl ks kq kt) now).snd.ps
     (tickL (Lk.mk kn kst ka kc kl ks kq kt) now).snd.dl
     (tickL (Lk.mk kn kst ka kc kl ks kq kt) now).snd.ms
     (tickL (Lk.mk kn kst ka kc kl ks kq kt) now).snd.cn)
     (fillR (Rec.mk a b c d f s)).1 (11 : Int)).ps))))
     (br
     (decide
     (IntKind.i64.wrap (fillR (Rec.mk a b c d f s)).1 > (tickL (Lk.mk kn kst ka kc kl ks kq kt) now).fst.n))
     (chk (decide ((tickL (Lk.mk kn kst ka kc kl ks kq kt) now).snd.ps.length ≤ (100000 : Nat)))
     (post
     (AV.tup
     [AV.agg
     [AV.int IntKind.i64 (tickL (Lk.mk kn kst ka kc kl ks kq kt) now).fst.n,
     AV.int IntKind.i64 (tickL (Lk.mk kn kst ka kc kl ks kq kt) now).fst.st,
     AV.int IntKind.u32 (tickL (Lk.mk kn kst ka kc kl ks kq kt) now).fst.a,
     AV.int IntKind.i64 (tickL (Lk.mk kn kst ka kc kl ks kq kt) now).fst.cmd,
     AV.int IntKind.i64 (tickL (Lk.mk kn kst ka kc kl ks kq kt) now).fst.len,
     AV.ints false IntKind.u8 (tickL (Lk.mk kn kst ka kc kl ks kq kt) now).fst.s,
     AV.int IntKind.i64 (tickL (Lk.mk kn kst ka kc kl ks kq kt) now).fst.q,
     AV.int IntKind.i64 (tickL (Lk.mk kn kst ka kc kl ks kq kt) now).fst.t],
     AV.agg
     [AV.ownf (1000 : Nat),
     AV.bool
     (refuseO
     (Ou.mk (tickL (Lk.mk kn kst ka kc kl ks kq kt) now).snd.ps
     (tickL (Lk.mk kn kst ka kc kl ks kq kt) now).snd.dl
     (tickL (Lk.mk kn kst ka kc kl ks kq kt) now).snd.ms
     (tickL (Lk.mk kn kst ka kc kl ks kq kt) now).snd.cn)
     (fillR (Rec.mk a b c d f s)).1 (11 : Int)).dl,
     AV.ints false IntKind.u8
     (refuseO
     (Ou.mk (tickL (Lk.mk kn kst ka kc kl ks kq kt) now).snd.ps
     (tickL (Lk.mk kn kst ka kc kl ks kq kt) now).snd.dl
     (tickL (Lk.mk kn kst ka kc kl ks kq kt) now).snd.ms
     (tickL (Lk.mk kn kst ka kc kl ks kq kt) now).snd.cn)
     (fillR (Rec.mk a b c d f s)).1 (11 : Int)).ms,
     AV.bool
     (refuseO
     (Ou.mk (tickL (Lk.mk kn kst ka kc kl ks kq kt) now).snd.ps
     (tickL (Lk.mk kn kst ka kc kl ks kq kt) now).snd.dl
     (tickL (Lk.mk kn kst ka kc kl ks kq kt) now).snd.ms
     (tickL (Lk.mk kn kst ka kc kl ks kq kt) now).snd.cn)
     (fillR (Rec.mk a b c d f s)).1 (11 : Int)).cn]])
     (some
     (AV.linr (38 : Nat) (0 : Nat)
     (refuseO
     (Ou.mk (tickL (Lk.mk kn kst ka kc kl ks kq kt) now).snd.ps
     (tickL (Lk.mk kn kst ka kc kl ks kq kt) now).snd.dl
     (tickL (Lk.mk kn kst ka kc kl ks kq kt) now).snd.ms
     (tickL (Lk.mk kn kst ka kc kl ks kq kt) now).snd.cn)
     (fillR (Rec.mk a b c d f s)).1 (11 : Int)).ps))))
     (br ((fillR (Rec.mk a b c d f s)).2 == (6 : Int))
     (chk
     (decide
     ((tickL (Lk.mk kn kst ka kc kl ks kq kt) now).snd.ps.length ≤ (100000 : Nat) ∧
     (8 : Nat) ≤ (fillR (Rec.mk a b c d f s)).6.length))
     (post
     (AV.tup
     [AV.agg
     [AV.int IntKind.i64
     (renewL
     (Lk.mk (tickL (Lk.mk kn kst ka kc kl ks kq kt) now).fst.n
     (tickL (Lk.mk kn kst ka kc kl ks kq kt) now).fst.st
     (tickL (Lk.mk kn kst ka kc kl ks kq kt) now).fst.a
     (tickL (Lk.mk kn kst ka kc kl ks kq kt) now).fst.cmd
     (tickL (Lk.mk kn kst ka kc kl ks kq kt) now).fst.len
     (tickL (Lk.mk kn kst ka kc kl ks kq kt) now).fst.s
     (tickL (Lk.mk kn kst ka kc kl ks kq kt) now).fst.q
     (tickL (Lk.mk kn kst ka kc kl ks kq kt) now).fst.t)
     (Ou.mk (tickL (Lk.mk kn kst ka kc kl ks kq kt) now).snd.ps
     (tickL (Lk.mk kn kst ka kc kl ks kq kt) now).snd.dl
     (tickL (Lk.mk kn kst ka kc kl ks kq kt) now).snd.ms
     (tickL (Lk.mk kn kst ka kc kl ks kq kt) now).snd.cn)
     (Rec.mk (fillR (Rec.mk a b c d f s)).1 (fillR (Rec.mk a b c d f s)).2
     (fillR (Rec.mk a b c d f s)).3 (fillR (Rec.mk a b c d f s)).4
     (fillR (Rec.mk a b c d f s)).5 (fillR (Rec.mk a b c d f s)).6)).fst.n,
     AV.int IntKind.i64
     (renewL
     (Lk.mk (tickL (Lk.mk kn kst ka kc kl ks kq kt) now).fst.n
     (tickL (Lk.mk kn kst ka kc kl ks kq kt) now).fst.st
     (tickL (Lk.mk kn kst ka kc kl ks kq kt) now).fst.a
     (tickL (Lk.mk kn kst ka kc kl ks kq kt) now).fst.cmd
     (tickL (Lk.mk kn kst ka kc kl ks kq kt) now).fst.len
     (tickL (Lk.mk kn kst ka kc kl ks kq kt) now).fst.s
     (tickL (Lk.mk kn kst ka kc kl ks kq kt) now).fst.q
     (tickL (Lk.mk kn kst ka kc kl ks kq kt) now).fst.t)
     (Ou.mk (tickL (Lk.mk kn kst ka kc kl ks kq kt) now).snd.ps
     (tickL (Lk.mk kn kst ka kc kl ks kq kt) now).snd.dl
     (tickL (Lk.mk kn kst ka kc kl ks kq kt) now).snd.ms
     (tickL (Lk.mk kn kst ka kc kl ks kq kt) now).snd.cn)
     (Rec.mk (fillR (Rec.mk a b c d f s)).1 (fillR (Rec.mk a b c d f s)).2
     (fillR (Rec.mk a b c d f s)).3 (fillR (Rec.mk a b c d f s)).4
     (fillR (Rec.mk a b c d f s)).5 (fillR (Rec.mk a b c d f s)).6)).fst.st,
     AV.int IntKind.u32
     (renewL
     (Lk.mk (tickL (Lk.mk kn kst ka kc kl ks kq kt) now).fst.n
     (tickL (Lk.mk kn kst ka kc kl ks kq kt) now).fst.st
     (tickL (Lk.mk kn kst ka kc kl ks kq kt) now).fst.a
     (tickL (Lk.mk kn kst ka kc kl ks kq kt) now).fst.cmd
     (tickL (Lk.mk kn kst ka kc kl ks kq kt) now).fst.len
     (tickL (Lk.mk kn kst ka kc kl ks kq kt) now).fst.s
     (tickL (Lk.mk kn kst ka kc kl ks kq kt) now).fst.q
     (tickL (Lk.mk kn kst ka kc kl ks kq kt) now).fst.t)
     (Ou.mk (tickL (Lk.mk kn kst ka kc kl ks kq kt) now).snd.ps
     (tickL (Lk.mk kn kst ka kc kl ks kq kt) now).snd.dl
     (tickL (Lk.mk kn kst ka kc kl ks kq kt) now).snd.ms
     (tickL (Lk.mk kn kst ka kc kl ks kq kt) now).snd.cn)
     (Rec.mk (fillR (Rec.mk a b c d f s)).1 (fillR (Rec.mk a b c d f s)).2
     (fillR (Rec.mk a b c d f s)).3 (fillR (Rec.mk a b c d f s)).4
     (fillR (Rec.mk a b c d f s)).5 (fillR (Rec.mk a b c d f s)).6)).fst.a,
     AV.int IntKind.i64
     (renewL
     (Lk.mk (tickL (Lk.mk kn kst ka kc kl ks kq kt) now).fst.n
     (tickL (Lk.mk kn kst ka kc kl ks kq kt) now).fst.st
     (tickL (Lk.mk kn kst ka kc kl ks kq kt) now).fst.a
     (tickL (Lk.mk kn kst ka kc kl ks kq kt) now).fst.cmd
     (tickL (Lk.mk kn kst ka kc kl ks kq kt) now).fst.len
     (tickL (Lk.mk kn kst ka kc kl ks kq kt) now).fst.s
     (tickL (Lk.mk kn kst ka kc kl ks kq kt) now).fst.q
     (tickL (Lk.mk kn kst ka kc kl ks kq kt) now).fst.t)
     (Ou.mk (tickL (Lk.mk kn kst ka kc kl ks kq kt) now).snd.ps
     (tickL (Lk.mk kn kst ka kc kl ks kq kt) now).snd.dl
     (tickL (Lk.mk kn kst ka kc kl ks kq kt) now).snd.ms
     (tickL (Lk.mk kn kst ka kc kl ks kq kt) now).snd.cn)
     (Rec.mk (fillR (Rec.mk a b c d f s)).1 (fillR (Rec.mk a b c d f s)).2
     (fillR (Rec.mk a b c d f s)).3 (fillR (Rec.mk a b c d f s)).4
     (fillR (Rec.mk a b c d f s)).5 (fillR (Rec.mk a b c d f s)).6)).fst.cmd,
     AV.int IntKind.i64
     (renewL
     (Lk.mk (tickL (Lk.mk kn kst ka kc kl ks kq kt) now).fst.n
     (tickL (Lk.mk kn kst ka kc kl ks kq kt) now).fst.st
     (tickL (Lk.mk kn kst ka kc kl ks kq kt) now).fst.a
     (tickL (Lk.mk kn kst ka kc kl ks kq kt) now).fst.cmd
     (tickL (Lk.mk kn kst ka kc kl ks kq kt) now).fst.len
     (tickL (Lk.mk kn kst ka kc kl ks kq kt) now).fst.s
     (tickL (Lk.mk kn kst ka kc kl ks kq kt) now).fst.q
     (tickL (Lk.mk kn kst ka kc kl ks kq kt) now).fst.t)
     (Ou.mk (tickL (Lk.mk kn kst ka kc kl ks kq kt) now).snd.ps
     (tickL (Lk.mk kn kst ka kc kl ks kq kt) now).snd.dl
     (tickL (Lk.mk kn kst ka kc kl ks kq kt) now).snd.ms
     (tickL (Lk.mk kn kst ka kc kl ks kq kt) now).snd.cn)
     (Rec.mk (fillR (Rec.mk a b c d f s)).1 (fillR (Rec.mk a b c d f s)).2
     (fillR (Rec.mk a b c d f s)).3 (fillR (Rec.mk a b c d f s)).4
     (fillR (Rec.mk a b c d f s)).5 (fillR (Rec.mk a b c d f s)).6)).fst.len,
     AV.ints false IntKind.u8
     (renewL
     (Lk.mk (tickL (Lk.mk kn kst ka kc kl ks kq kt) now).fst.n
     (tickL (Lk.mk kn kst ka kc kl ks kq kt) now).fst.st
     (tickL (Lk.mk kn kst ka kc kl ks kq kt) now).fst.a
     (tickL (Lk.mk kn kst ka kc kl ks kq kt) now).fst.cmd
     (tickL (Lk.mk kn kst ka kc kl ks kq kt) now).fst.len
     (tickL (Lk.mk kn kst ka kc kl ks kq kt) now).fst.s
     (tickL (Lk.mk kn kst ka kc kl ks kq kt) now).fst.q
     (tickL (Lk.mk kn kst ka kc kl ks kq kt) now).fst.t)
     (Ou.mk (tickL (Lk.mk kn kst ka kc kl ks kq kt) now).snd.ps
     (tickL (Lk.mk kn kst ka kc kl ks kq kt) now).snd.dl
     (tickL (Lk.mk kn kst ka kc kl ks kq kt) now).snd.ms
     (tickL (Lk.mk kn kst ka kc kl ks kq kt) now).snd.cn)
     (Rec.mk (fillR (Rec.mk a b c d f s)).1 (fillR (Rec.mk a b c d f s)).2
     (fillR (Rec.mk a b c d f s)).3 (fillR (Rec.mk a b c d f s)).4
     (fillR (Rec.mk a b c d f s)).5 (fillR (Rec.mk a b c d f s)).6)).fst.s,
     AV.int IntKind.i64
     (renewL
     (Lk.mk (tickL (Lk.mk kn kst ka kc kl ks kq kt) now).fst.n
     (tickL (Lk.mk kn kst ka kc kl ks kq kt) now).fst.st
     (tickL (Lk.mk kn kst ka kc kl ks kq kt) now).fst.a
     (tickL (Lk.mk kn kst ka kc kl ks kq kt) now).fst.cmd
     (tickL (Lk.mk kn kst ka kc kl ks kq kt) now).fst.len
     (tickL (Lk.mk kn kst ka kc kl ks kq kt) now).fst.s
     (tickL (Lk.mk kn kst ka kc kl ks kq kt) now).fst.q
     (tickL (Lk.mk kn kst ka kc kl ks kq kt) now).fst.t)
     (Ou.mk (tickL (Lk.mk kn kst ka kc kl ks kq kt) now).snd.ps
     (tickL (Lk.mk kn kst ka kc kl ks kq kt) now).snd.dl
     (tickL (Lk.mk kn kst ka kc kl ks kq kt) now).snd.ms
     (tickL (Lk.mk kn kst ka kc kl ks kq kt) now).snd.cn)
     (Rec.mk (fillR (Rec.mk a b c d f s)).1 (fillR (Rec.mk a b c d f s)).2
     (fillR (Rec.mk a b c d f s)).3 (fillR (Rec.mk a b c d f s)).4
     (fillR (Rec.mk a b c d f s)).5 (fillR (Rec.mk a b c d f s)).6)).fst.q,
     AV.int IntKind.i64
     (renewL
     (Lk.mk (tickL (Lk.mk kn kst ka kc kl ks kq kt) now).fst.n
     (tickL (Lk.mk kn kst ka kc kl ks kq kt) now).fst.st
     (tickL (Lk.mk kn kst ka kc kl ks kq kt) now).fst.a
     (tickL (Lk.mk kn kst ka kc kl ks kq kt) now).fst.cmd
     (tickL (Lk.mk kn kst ka kc kl ks kq kt) now).fst.len
     (tickL (Lk.mk kn kst ka kc kl ks kq kt) now).fst.s
     (tickL (Lk.mk kn kst ka kc kl ks kq kt) now).fst.q
     (tickL (Lk.mk kn kst ka kc kl ks kq kt) now).fst.t)
     (Ou.mk (tickL (Lk.mk kn kst ka kc kl ks kq kt) now).snd.ps
     (tickL (Lk.mk kn kst ka kc kl ks kq kt) now).snd.dl
     (tickL (Lk.mk kn kst ka kc kl ks kq kt) now).snd.ms
     (tickL (Lk.mk kn kst ka kc kl ks kq kt) now).snd.cn)
     (Rec.mk (fillR (Rec.mk a b c d f s)).1 (fillR (Rec.mk a b c d f s)).2
     (fillR (Rec.mk a b c d f s)).3 (fillR (Rec.mk a b c d f s)).4
     (fillR (Rec.mk a b c d f s)).5 (fillR (Rec.mk a b c d f s)).6)).fst.t],
     AV.agg
     [AV.ownf (1000 : Nat),
     AV.bool
     (renewL
     (Lk.mk (tickL (Lk.mk kn kst ka kc kl ks kq kt) now).fst.n
     (tickL (Lk.mk kn kst ka kc kl ks kq kt) now).fst.st
     (tickL (Lk.mk kn kst ka kc kl ks kq kt) now).fst.a
     (tickL (Lk.mk kn kst ka kc kl ks kq kt) now).fst.cmd
     (tickL (Lk.mk kn kst ka kc kl ks kq kt) now).fst.len
     (tickL (Lk.mk kn kst ka kc kl ks kq kt) now).fst.s
     (tickL (Lk.mk kn kst ka kc kl ks kq kt) now).fst.q
     (tickL (Lk.mk kn kst ka kc kl ks kq kt) now).fst.t)
     (Ou.mk (tickL (Lk.mk kn kst ka kc kl ks kq kt) now).snd.ps
     (tickL (Lk.mk kn kst ka kc kl ks kq kt) now).snd.dl
     (tickL (Lk.mk kn kst ka kc kl ks kq kt) now).snd.ms
     (tickL (Lk.mk kn kst ka kc kl ks kq kt) now).snd.cn)
     (Rec.mk (fillR (Rec.mk a b c d f s)).1 (fillR (Rec.mk a b c d f s)).2
     (fillR (Rec.mk a b c d f s)).3 (fillR (Rec.mk a b c d f s)).4
     (fillR (Rec.mk a b c d f s)).5 (fillR (Rec.mk a b c d f s)).6)).snd.dl,
     AV.ints false IntKind.u8
     (renewL
     (Lk.mk (tickL (Lk.mk kn kst ka kc kl ks kq kt) now).fst.n
     (tickL (Lk.mk kn kst ka kc kl ks kq kt) now).fst.st
     (tickL (Lk.mk kn kst ka kc kl ks kq kt) now).fst.a
     (tickL (Lk.mk kn kst ka kc kl ks kq kt) now).fst.cmd
     (tickL (Lk.mk kn kst ka kc kl ks kq kt) now).fst.len
     (tickL (Lk.mk kn kst ka kc kl ks kq kt) now).fst.s
     (tickL (Lk.mk kn kst ka kc kl ks kq kt) now).fst.q
     (tickL (Lk.mk kn kst ka kc kl ks kq kt) now).fst.t)
     (Ou.mk (tickL (Lk.mk kn kst ka kc kl ks kq kt) now).snd.ps
     (tickL (Lk.mk kn kst ka kc kl ks kq kt) now).snd.dl
     (tickL (Lk.mk kn kst ka kc kl ks kq kt) now).snd.ms
     (tickL (Lk.mk kn kst ka kc kl ks kq kt) now).snd.cn)
     (Rec.mk (fillR (Rec.mk a b c d f s)).1 (fillR (Rec.mk a b c d f s)).2
     (fillR (Rec.mk a b c d f s)).3 (fillR (Rec.mk a b c d f s)).4
     (fillR (Rec.mk a b c d f s)).5 (fillR (Rec.mk a b c d f s)).6)).snd.ms,
     AV.bool
     (renewL
     (Lk.mk (tickL (Lk.mk kn kst ka kc kl ks kq kt) now).fst.n
     (tickL (Lk.mk kn kst ka kc kl ks kq kt) now).fst.st
     (tickL (Lk.mk kn kst ka kc kl ks kq kt) now).fst.a
     (tickL (Lk.mk kn kst ka kc kl ks kq kt) now).fst.cmd
     (tickL (Lk.mk kn kst ka kc kl ks kq kt) now).fst.len
     (tickL (Lk.mk kn kst ka kc kl ks kq kt) now).fst.s
     (tickL (Lk.mk kn kst ka kc kl ks kq kt) now).fst.q
     (tickL (Lk.mk kn kst ka kc kl ks kq kt) now).fst.t)
     (Ou.mk (tickL (Lk.mk kn kst ka kc kl ks kq kt) now).snd.ps
     (tickL (Lk.mk kn kst ka kc kl ks kq kt) now).snd.dl
     (tickL (Lk.mk kn kst ka kc kl ks kq kt) now).snd.ms
     (tickL (Lk.mk kn kst ka kc kl ks kq kt) now).snd.cn)
     (Rec.mk (fillR (Rec.mk a b c d f s)).1 (fillR (Rec.mk a b c d f s)).2
     (fillR (Rec.mk a b c d f s)).3 (fillR (Rec.mk a b c d f s)).4
     (fillR (Rec.mk a b c d f s)).5 (fillR (Rec.mk a b c d f s)).6)).snd.cn]])
     (some
     (AV.linr (38 : Nat) (0 : Nat)
     (renewL
     (Lk.mk (tickL (Lk.mk kn kst ka kc kl ks kq kt) now).fst.n
     (tickL (Lk.mk kn kst ka kc kl ks kq kt) now).fst.st
     (tickL (Lk.mk kn kst ka kc kl ks kq kt) now).fst.a
     (tickL (Lk.mk kn kst ka kc kl ks kq kt) now).fst.cmd
     (tickL (Lk.mk kn kst ka kc kl ks kq kt) now).fst.len
     (tickL (Lk.mk kn kst ka kc kl ks kq kt) now).fst.s
     (tickL (Lk.mk kn kst ka kc kl ks kq kt) now).fst.q
     (tickL (Lk.mk kn kst ka kc kl ks kq kt) now).fst.t)
     (Ou.mk (tickL (Lk.mk kn kst ka kc kl ks kq kt) now).snd.ps
     (tickL (Lk.mk kn kst ka kc kl ks kq kt) now).snd.dl
     (tickL (Lk.mk kn kst ka kc kl ks kq kt) now).snd.ms
     (tickL (Lk.mk kn kst ka kc kl ks kq kt) now).snd.cn)
     (Rec.mk (fillR (Rec.mk a b c d f s)).1 (fillR (Rec.mk a b c d f s)).2
     (fillR (Rec.mk a b c d f s)).3 (fillR (Rec.mk a b c d f s)).4
     (fillR (Rec.mk a b c d f s)).5 (fillR (Rec.mk a b c d f s)).6)).snd.ps))))
     (br ((fillR (Rec.mk a b c d f s)).2 == (17 : Int))
     (post
     (AV.tup
     [AV.agg
     [AV.int IntKind.i64
     (cancL
     (Lk.mk (tickL (Lk.mk kn kst ka kc kl ks kq kt) now).fst.n
     (tickL (Lk.mk kn kst ka kc kl ks kq kt) now).fst.st
     (tickL (Lk.mk kn kst ka kc kl ks kq kt) now).fst.a
     (tickL (Lk.mk kn kst ka kc kl ks kq kt) now).fst.cmd
     (tickL (Lk.mk kn kst ka kc kl ks kq kt) now).fst.len
     (tickL (Lk.mk kn kst ka kc kl ks kq kt) now).fst.s
     (tickL (Lk.mk kn kst ka kc kl ks kq kt) now).fst.q
     (tickL (Lk.mk kn kst ka kc kl ks kq kt) now).fst.t)
     (Ou.mk (tickL (Lk.mk kn kst ka kc kl ks kq kt) now).snd.ps
     (tickL (Lk.mk kn kst ka kc kl ks kq kt) now).snd.dl
     (tickL (Lk.mk kn kst ka kc kl ks kq kt) now).snd.ms
     (tickL (Lk.mk kn kst ka kc kl ks kq kt) now).snd.cn)
     (fillR (Rec.mk a b c d f s)).1).fst.n,
     AV.int IntKind.i64
     (cancL
     (Lk.mk (tickL (Lk.mk kn kst ka kc kl ks kq kt) now).fst.n
     (tickL (Lk.mk kn kst ka kc kl ks kq kt) now).fst.st
     (tickL (Lk.mk kn kst ka kc kl ks kq kt) now).fst.a
     (tickL (Lk.mk kn kst ka kc kl ks kq kt) now).fst.cmd
     (tickL (Lk.mk kn kst ka kc kl ks kq kt) now).fst.len
     (tickL (Lk.mk kn kst ka kc kl ks kq kt) now).fst.s
     (tickL (Lk.mk kn kst ka kc kl ks kq kt) now).fst.q
     (tickL (Lk.mk kn kst ka kc kl ks kq kt) now).fst.t)
     (Ou.mk (tickL (Lk.mk kn kst ka kc kl ks kq kt) now).snd.ps
     (tickL (Lk.mk kn kst ka kc kl ks kq kt) now).snd.dl
     (tickL (Lk.mk kn kst ka kc kl ks kq kt) now).snd.ms
     (tickL (Lk.mk kn kst ka kc kl ks kq kt) now).snd.cn)
     (fillR (Rec.mk a b c d f s)).1).fst.st,
     AV.int IntKind.u32
     (cancL
     (Lk.mk (tickL (Lk.mk kn kst ka kc kl ks kq kt) now).fst.n
     (tickL (Lk.mk kn kst ka kc kl ks kq kt) now).fst.st
     (tickL (Lk.mk kn kst ka kc kl ks kq kt) now).fst.a
     (tickL (Lk.mk kn kst ka kc kl ks kq kt) now).fst.cmd
     (tickL (Lk.mk kn kst ka kc kl ks kq kt) now).fst.len
     (tickL (Lk.mk kn kst ka kc kl ks kq kt) now).fst.s
     (tickL (Lk.mk kn kst ka kc kl ks kq kt) now).fst.q
     (tickL (Lk.mk kn kst ka kc kl ks kq kt) now).fst.t)
     (Ou.mk (tickL (Lk.mk kn kst ka kc kl ks kq kt) now).snd.ps
     (tickL (Lk.mk kn kst ka kc kl ks kq kt) now).snd.dl
     (tickL (Lk.mk kn kst ka kc kl ks kq kt) now).snd.ms
     (tickL (Lk.mk kn kst ka kc kl ks kq kt) now).snd.cn)
     (fillR (Rec.mk a b c d f s)).1).fst.a,
     AV.int IntKind.i64
     (cancL
     (Lk.mk (tickL (Lk.mk kn kst ka kc kl ks kq kt) now).fst.n
     (tickL (Lk.mk kn kst ka kc kl ks kq kt) now).fst.st
     (tickL (Lk.mk kn kst ka kc kl ks kq kt) now).fst.a
     (tickL (Lk.mk kn kst ka kc kl ks kq kt) now).fst.cmd
     (tickL (Lk.mk kn kst ka kc kl ks kq kt) now).fst.len
     (tickL (Lk.mk kn kst ka kc kl ks kq kt) now).fst.s
     (tickL (Lk.mk kn kst ka kc kl ks kq kt) now).fst.q
     (tickL (Lk.mk kn kst ka kc kl ks kq kt) now).fst.t)
     (Ou.mk (tickL (Lk.mk kn kst ka kc kl ks kq kt) now).snd.ps
     (tickL (Lk.mk kn kst ka kc kl ks kq kt) now).snd.dl
     (tickL (Lk.mk kn kst ka kc kl ks kq kt) now).snd.ms
     (tickL (Lk.mk kn kst ka kc kl ks kq kt) now).snd.cn)
     (fillR (Rec.mk a b c d f s)).1).fst.cmd,
     AV.int IntKind.i64
     (cancL
     (Lk.mk (tickL (Lk.mk kn kst ka kc kl ks kq kt) now).fst.n
     (tickL (Lk.mk kn kst ka kc kl ks kq kt) now).fst.st
     (tickL (Lk.mk kn kst ka kc kl ks kq kt) now).fst.a
     (tickL (Lk.mk kn kst ka kc kl ks kq kt) now).fst.cmd
     (tickL (Lk.mk kn kst ka kc kl ks kq kt) now).fst.len
     (tickL (Lk.mk kn kst ka kc kl ks kq kt) now).fst.s
     (tickL (Lk.mk kn kst ka kc kl ks kq kt) now).fst.q
     (tickL (Lk.mk kn kst ka kc kl ks kq kt) now).fst.t)
     (Ou.mk (tickL (Lk.mk kn kst ka kc kl ks kq kt) now).snd.ps
     (tickL (Lk.mk kn kst ka kc kl ks kq kt) now).snd.dl
     (tickL (Lk.mk kn kst ka kc kl ks kq kt) now).snd.ms
     (tickL (Lk.mk kn kst ka kc kl ks kq kt) now).snd.cn)
     (fillR (Rec.mk a b c d f s)).1).fst.len,
     AV.ints false IntKind.u8
     (cancL
     (Lk.mk (tickL (Lk.mk kn kst ka kc kl ks kq kt) now).fst.n
     (tickL (Lk.mk kn kst ka kc kl ks kq kt) now).fst.st
     (tickL (Lk.mk kn kst ka kc kl ks kq kt) now).fst.a
     (tickL (Lk.mk kn kst ka kc kl ks kq kt) now).fst.cmd
     (tickL (Lk.mk kn kst ka kc kl ks kq kt) now).fst.len
     (tickL (Lk.mk kn kst ka kc kl ks kq kt) now).fst.s
     (tickL (Lk.mk kn kst ka kc kl ks kq kt) now).fst.q
     (tickL (Lk.mk kn kst ka kc kl ks kq kt) now).fst.t)
     (Ou.mk (tickL (Lk.mk kn kst ka kc kl ks kq kt) now).snd.ps
     (tickL (Lk.mk kn kst ka kc kl ks kq kt) now).snd.dl
     (tickL (Lk.mk kn kst ka kc kl ks kq kt) now).snd.ms
     (tickL (Lk.mk kn kst ka kc kl ks kq kt) now).snd.cn)
     (fillR (Rec.mk a b c d f s)).1).fst.s,
     AV.int IntKind.i64
     (cancL
     (Lk.mk (tickL (Lk.mk kn kst ka kc kl ks kq kt) now).fst.n
     (tickL (Lk.mk kn kst ka kc kl ks kq kt) now).fst.st
     (tickL (Lk.mk kn kst ka kc kl ks kq kt) now).fst.a
     (tickL (Lk.mk kn kst ka kc kl ks kq kt) now).fst.cmd
     (tickL (Lk.mk kn kst ka kc kl ks kq kt) now).fst.len
     (tickL (Lk.mk kn kst ka kc kl ks kq kt) now).fst.s
     (tickL (Lk.mk kn kst ka kc kl ks kq kt) now).fst.q
     (tickL (Lk.mk kn kst ka kc kl ks kq kt) now).fst.t)
     (Ou.mk (tickL (Lk.mk kn kst ka kc kl ks kq kt) now).snd.ps
     (tickL (Lk.mk kn kst ka kc kl ks kq kt) now).snd.dl
     (tickL (Lk.mk kn kst ka kc kl ks kq kt) now).snd.ms
     (tickL (Lk.mk kn kst ka kc kl ks kq kt) now).snd.cn)
     (fillR (Rec.mk a b c d f s)).1).fst.q,
     AV.int IntKind.i64
     (cancL
     (Lk.mk (tickL (Lk.mk kn kst ka kc kl ks kq kt) now).fst.n
     (tickL (Lk.mk kn kst ka kc kl ks kq kt) now).fst.st
     (tickL (Lk.mk kn kst ka kc kl ks kq kt) now).fst.a
     (tickL (Lk.mk kn kst ka kc kl ks kq kt) now).fst.cmd
     (tickL (Lk.mk kn kst ka kc kl ks kq kt) now).fst.len
     (tickL (Lk.mk kn kst ka kc kl ks kq kt) now).fst.s
     (tickL (Lk.mk kn kst ka kc kl ks kq kt) now).fst.q
     (tickL (Lk.mk kn kst ka kc kl ks kq kt) now).fst.t)
     (Ou.mk (tickL (Lk.mk kn kst ka kc kl ks kq kt) now).snd.ps
     (tickL (Lk.mk kn kst ka kc kl ks kq kt) now).snd.dl
     (tickL (Lk.mk kn kst ka kc kl ks kq kt) now).snd.ms
     (tickL (Lk.mk kn kst ka kc kl ks kq kt) now).snd.cn)
     (fillR (Rec.mk a b c d f s)).1).fst.t],
     AV.agg
     [AV.ownf (1000 : Nat),
     AV.bool
     (cancL
     (Lk.mk (tickL (Lk.mk kn kst ka kc kl ks kq kt) now).fst.n
     (tickL (Lk.mk kn kst ka kc kl ks kq kt) now).fst.st
     (tickL (Lk.mk kn kst ka kc kl ks kq kt) now).fst.a
     (tickL (Lk.mk kn kst ka kc kl ks kq kt) now).fst.cmd
     (tickL (Lk.mk kn kst ka kc kl ks kq kt) now).fst.len
     (tickL (Lk.mk kn kst ka kc kl ks kq kt) now).fst.s
     (tickL (Lk.mk kn kst ka kc kl ks kq kt) now).fst.q
     (tickL (Lk.mk kn kst ka kc kl ks kq kt) now).fst.t)
     (Ou.mk (tickL (Lk.mk kn kst ka kc kl ks kq kt) now).snd.ps
     (tickL (Lk.mk kn kst ka kc kl ks kq kt) now).snd.dl
     (tickL (Lk.mk kn kst ka kc kl ks kq kt) now).snd.ms
     (tickL (Lk.mk kn kst ka kc kl ks kq kt) now).snd.cn)
     (fillR (Rec.mk a b c d f s)).1).snd.dl,
     AV.ints false IntKind.u8
     (cancL
     (Lk.mk (tickL (Lk.mk kn kst ka kc kl ks kq kt) now).fst.n
     (tickL (Lk.mk kn kst ka kc kl ks kq kt) now).fst.st
     (tickL (Lk.mk kn kst ka kc kl ks kq kt) now).fst.a
     (tickL (Lk.mk kn kst ka kc kl ks kq kt) now).fst.cmd
     (tickL (Lk.mk kn kst ka kc kl ks kq kt) now).fst.len
     (tickL (Lk.mk kn kst ka kc kl ks kq kt) now).fst.s
     (tickL (Lk.mk kn kst ka kc kl ks kq kt) now).fst.q
     (tickL (Lk.mk kn kst ka kc kl ks kq kt) now).fst.t)
     (Ou.mk (tickL (Lk.mk kn kst ka kc kl ks kq kt) now).snd.ps
     (tickL (Lk.mk kn kst ka kc kl ks kq kt) now).snd.dl
     (tickL (Lk.mk kn kst ka kc kl ks kq kt) now).snd.ms
     (tickL (Lk.mk kn kst ka kc kl ks kq kt) now).snd.cn)
     (fillR (Rec.mk a b c d f s)).1).snd.ms,
     AV.bool
     (cancL
     (Lk.mk (tickL (Lk.mk kn kst ka kc kl ks kq kt) now).fst.n
     (tickL (Lk.mk kn kst ka kc kl ks kq kt) now).fst.st
     (tickL (Lk.mk kn kst ka kc kl ks kq kt) now).fst.a
     (tickL (Lk.mk kn kst ka kc kl ks kq kt) now).fst.cmd
     (tickL (Lk.mk kn kst ka kc kl ks kq kt) now).fst.len
     (tickL (Lk.mk kn kst ka kc kl ks kq kt) now).fst.s
     (tickL (Lk.mk kn kst ka kc kl ks kq kt) now).fst.q
     (tickL (Lk.mk kn kst ka kc kl ks kq kt) now).fst.t)
     (Ou.mk (tickL (Lk.mk kn kst ka kc kl ks kq kt) now).snd.ps
     (tickL (Lk.mk kn kst ka kc kl ks kq kt) now).snd.dl
     (tickL (Lk.mk kn kst ka kc kl ks kq kt) now).snd.ms
     (tickL (Lk.mk kn kst ka kc kl ks kq kt) now).snd.cn)
     (fillR (Rec.mk a b c d f s)).1).snd.cn]])
     (some
     (AV.linr (38 : Nat) (0 : Nat)
     (cancL
     (Lk.mk (tickL (Lk.mk kn kst ka kc kl ks kq kt) now).fst.n
     (tickL (Lk.mk kn kst ka kc kl ks kq kt) now).fst.st
     (tickL (Lk.mk kn kst ka kc kl ks kq kt) now).fst.a
     (tickL (Lk.mk kn kst ka kc kl ks kq kt) now).fst.cmd
     (tickL (Lk.mk kn kst ka kc kl ks kq kt) now).fst.len
     (tickL (Lk.mk kn kst ka kc kl ks kq kt) now).fst.s
     (tickL (Lk.mk kn kst ka kc kl ks kq kt) now).fst.q
     (tickL (Lk.mk kn kst ka kc kl ks kq kt) now).fst.t)
     (Ou.mk (tickL (Lk.mk kn kst ka kc kl ks kq kt) now).snd.ps
     (tickL (Lk.mk kn kst ka kc kl ks kq kt) now).snd.dl
     (tickL (Lk.mk kn kst ka kc kl ks kq kt) now).snd.ms
     (tickL (Lk.mk kn kst ka kc kl ks kq kt) now).snd.cn)
     (fillR (Rec.mk a b c d f s)).1).snd.ps)))
     (chk
     (decide
     ((tickL (Lk.mk kn kst ka kc kl ks kq kt) now).snd.ps.length ≤ (100000 : Nat) ∧
     (tickL (Lk.mk kn kst ka kc kl ks kq kt) now).fst.s.length ≤ (100000 : Nat) ∧
     (fillR (Rec.mk a b c d f s)).6.length ≤ (100000 : Nat) ∧
     (-1000000 : Int) ≤ (tickL (Lk.mk kn kst ka kc kl ks kq kt) now).fst.len ∧
     (tickL (Lk.mk kn kst ka kc kl ks kq kt) now).fst.len ≤ (1000000 : Int) ∧
     (0 : Int) ≤ (fillR (Rec.mk a b c d f s)).3 ∧
     (fillR (Rec.mk a b c d f s)).3 ≤ (1000000 : Int)))
     (post
     (AV.tup
     [AV.agg
     [AV.int IntKind.i64
     (beginL
     (Lk.mk (tickL (Lk.mk kn kst ka kc kl ks kq kt) now).fst.n
     (tickL (Lk.mk kn kst ka kc kl ks kq kt) now).fst.st
     (tickL (Lk.mk kn kst ka kc kl ks kq kt) now).fst.a
     (tickL (Lk.mk kn kst ka kc kl ks kq kt) now).fst.cmd
     (tickL (Lk.mk kn kst ka kc kl ks kq kt) now).fst.len
     (tickL (Lk.mk kn kst ka kc kl ks kq kt) now).fst.s
     (tickL (Lk.mk kn kst ka kc kl ks kq kt) now).fst.q
     (tickL (Lk.mk kn kst ka kc kl ks kq kt) now).fst.t)
     (Ou.mk (tickL (Lk.mk kn kst ka kc kl ks kq kt) now).snd.ps
     (tickL (Lk.mk kn kst ka kc kl ks kq kt) now).snd.dl
     (tickL (Lk.mk kn kst ka kc kl ks kq kt) now).snd.ms
     (tickL (Lk.mk kn kst ka kc kl ks kq kt) now).snd.cn)
     now
     (Rec.mk (fillR (Rec.mk a b c d f s)).1 (fillR (Rec.mk a b c d f s)).2
     (fillR (Rec.mk a b c d f s)).3 (fillR (Rec.mk a b c d f s)).4
     (fillR (Rec.mk a b c d f s)).5 (fillR (Rec.mk a b c d f s)).6)).fst.n,
     AV.int IntKind.i64
     (beginL
     (Lk.mk (tickL (Lk.mk kn kst ka kc kl ks kq kt) now).fst.n
     (tickL (Lk.mk kn kst ka kc kl ks kq kt) now).fst.st
     (tickL (Lk.mk kn kst ka kc kl ks kq kt) now).fst.a
     (tickL (Lk.mk kn kst ka kc kl ks kq kt) now).fst.cmd
     (tickL (Lk.mk kn kst ka kc kl ks kq kt) now).fst.len
     (tickL (Lk.mk kn kst ka kc kl ks kq kt) now).fst.s
     (tickL (Lk.mk kn kst ka kc kl ks kq kt) now).fst.q
     (tickL (Lk.mk kn kst ka kc kl ks kq kt) now).fst.t)
     (Ou.mk (tickL (Lk.mk kn kst ka kc kl ks kq kt) now).snd.ps
     (tickL (Lk.mk kn kst ka kc kl ks kq kt) now).snd.dl
     (tickL (Lk.mk kn kst ka kc kl ks kq kt) now).snd.ms
     (tickL (Lk.mk kn kst ka kc kl ks kq kt) now).snd.cn)
     now
     (Rec.mk (fillR (Rec.mk a b c d f s)).1 (fillR (Rec.mk a b c d f s)).2
     (fillR (Rec.mk a b c d f s)).3 (fillR (Rec.mk a b c d f s)).4
     (fillR (Rec.mk a b c d f s)).5 (fillR (Rec.mk a b c d f s)).6)).fst.st,
     AV.int IntKind.u32
     (beginL
     (Lk.mk (tickL (Lk.mk kn kst ka kc kl ks kq kt) now).fst.n
     (tickL (Lk.mk kn kst ka kc kl ks kq kt) now).fst.st
     (tickL (Lk.mk kn kst ka kc kl ks kq kt) now).fst.a
     (tickL (Lk.mk kn kst ka kc kl ks kq kt) now).fst.cmd
     (tickL (Lk.mk kn kst ka kc kl ks kq kt) now).fst.len
     (tickL (Lk.mk kn kst ka kc kl ks kq kt) now).fst.s
     (tickL (Lk.mk kn kst ka kc kl ks kq kt) now).fst.q
     (tickL (Lk.mk kn kst ka kc kl ks kq kt) now).fst.t)
     (Ou.mk (tickL (Lk.mk kn kst ka kc kl ks kq kt) now).snd.ps
     (tickL (Lk.mk kn kst ka kc kl ks kq kt) now).snd.dl
     (tickL (Lk.mk kn kst ka kc kl ks kq kt) now).snd.ms
     (tickL (Lk.mk kn kst ka kc kl ks kq kt) now).snd.cn)
     now
     (Rec.mk (fillR (Rec.mk a b c d f s)).1 (fillR (Rec.mk a b c d f s)).2
     (fillR (Rec.mk a b c d f s)).3 (fillR (Rec.mk a b c d f s)).4
     (fillR (Rec.mk a b c d f s)).5 (fillR (Rec.mk a b c d f s)).6)).fst.a,
     AV.int IntKind.i64
     (beginL
     (Lk.mk (tickL (Lk.mk kn kst ka kc kl ks kq kt) now).fst.n
     (tickL (Lk.mk kn kst ka kc kl ks kq kt) now).fst.st
     (tickL (Lk.mk kn kst ka kc kl ks kq kt) now).fst.a
     (tickL (Lk.mk kn kst ka kc kl ks kq kt) now).fst.cmd
     (tickL (Lk.mk kn kst ka kc kl ks kq kt) now).fst.len
     (tickL (Lk.mk kn kst ka kc kl ks kq kt) now).fst.s
     (tickL (Lk.mk kn kst ka kc kl ks kq kt) now).fst.q
     (tickL (Lk.mk kn kst ka kc kl ks kq kt) now).fst.t)
     (Ou.mk (tickL (Lk.mk kn kst ka kc kl ks kq kt) now).snd.ps
     (tickL (Lk.mk kn kst ka kc kl ks kq kt) now).snd.dl
     (tickL (Lk.mk kn kst ka kc kl ks kq kt) now).snd.ms
     (tickL (Lk.mk kn kst ka kc kl ks kq kt) now).snd.cn)
     now
     (Rec.mk (fillR (Rec.mk a b c d f s)).1 (fillR (Rec.mk a b c d f s)).2
     (fillR (Rec.mk a b c d f s)).3 (fillR (Rec.mk a b c d f s)).4
     (fillR (Rec.mk a b c d f s)).5 (fillR (Rec.mk a b c d f s)).6)).fst.cmd,
     AV.int IntKind.i64
     (beginL
     (Lk.mk (tickL (Lk.mk kn kst ka kc kl ks kq kt) now).fst.n
     (tickL (Lk.mk kn kst ka kc kl ks kq kt) now).fst.st
     (tickL (Lk.mk kn kst ka kc kl ks kq kt) now).fst.a
     (tickL (Lk.mk kn kst ka kc kl ks kq kt) now).fst.cmd
     (tickL (Lk.mk kn kst ka kc kl ks kq kt) now).fst.len
     (tickL (Lk.mk kn kst ka kc kl ks kq kt) now).fst.s
     (tickL (Lk.mk kn kst ka kc kl ks kq kt) now).fst.q
     (tickL (Lk.mk kn kst ka kc kl ks kq kt) now).fst.t)
     (Ou.mk (tickL (Lk.mk kn kst ka kc kl ks kq kt) now).snd.ps
     (tickL (Lk.mk kn kst ka kc kl ks kq kt) now).snd.dl
     (tickL (Lk.mk kn kst ka kc kl ks kq kt) now).snd.ms
     (tickL (Lk.mk kn kst ka kc kl ks kq kt) now).snd.cn)
     now
     (Rec.mk (fillR (Rec.mk a b c d f s)).1 (fillR (Rec.mk a b c d f s)).2
     (fillR (Rec.mk a b c d f s)).3 (fillR (Rec.mk a b c d f s)).4
     (fillR (Rec.mk a b c d f s)).5 (fillR (Rec.mk a b c d f s)).6)).fst.len,
     AV.ints false IntKind.u8
     (beginL
     (Lk.mk (tickL (Lk.mk kn kst ka kc kl ks kq kt) now).fst.n
     (tickL (Lk.mk kn kst ka kc kl ks kq kt) now).fst.st
     (tickL (Lk.mk kn kst ka kc kl ks kq kt) now).fst.a
     (tickL (Lk.mk kn kst ka kc kl ks kq kt) now).fst.cmd
     (tickL (Lk.mk kn kst ka kc kl ks kq kt) now).fst.len
     (tickL (Lk.mk kn kst ka kc kl ks kq kt) now).fst.s
     (tickL (Lk.mk kn kst ka kc kl ks kq kt) now).fst.q
     (tickL (Lk.mk kn kst ka kc kl ks kq kt) now).fst.t)
     (Ou.mk (tickL (Lk.mk kn kst ka kc kl ks kq kt) now).snd.ps
     (tickL (Lk.mk kn kst ka kc kl ks kq kt) now).snd.dl
     (tickL (Lk.mk kn kst ka kc kl ks kq kt) now).snd.ms
     (tickL (Lk.mk kn kst ka kc kl ks kq kt) now).snd.cn)
     now
     (Rec.mk (fillR (Rec.mk a b c d f s)).1 (fillR (Rec.mk a b c d f s)).2
     (fillR (Rec.mk a b c d f s)).3 (fillR (Rec.mk a b c d f s)).4
     (fillR (Rec.mk a b c d f s)).5 (fillR (Rec.mk a b c d f s)).6)).fst.s,
     AV.int IntKind.i64
     (beginL
     (Lk.mk (tickL (Lk.mk kn kst ka kc kl ks kq kt) now).fst.n
     (tickL (Lk.mk kn kst ka kc kl ks kq kt) now).fst.st
     (tickL (Lk.mk kn kst ka kc kl ks kq kt) now).fst.a
     (tickL (Lk.mk kn kst ka kc kl ks kq kt) now).fst.cmd
     (tickL (Lk.mk kn kst ka kc kl ks kq kt) now).fst.len
     (tickL (Lk.mk kn kst ka kc kl ks kq kt) now).fst.s
     (tickL (Lk.mk kn kst ka kc kl ks kq kt) now).fst.q
     (tickL (Lk.mk kn kst ka kc kl ks kq kt) now).fst.t)
     (Ou.mk (tickL (Lk.mk kn kst ka kc kl ks kq kt) now).snd.ps
     (tickL (Lk.mk kn kst ka kc kl ks kq kt) now).snd.dl
     (tickL (Lk.mk kn kst ka kc kl ks kq kt) now).snd.ms
     (tickL (Lk.mk kn kst ka kc kl ks kq kt) now).snd.cn)
     now
     (Rec.mk (fillR (Rec.mk a b c d f s)).1 (fillR (Rec.mk a b c d f s)).2
     (fillR (Rec.mk a b c d f s)).3 (fillR (Rec.mk a b c d f s)).4
     (fillR (Rec.mk a b c d f s)).5 (fillR (Rec.mk a b c d f s)).6)).fst.q,
     AV.int IntKind.i64
     (beginL
     (Lk.mk (tickL (Lk.mk kn kst ka kc kl ks kq kt) now).fst.n
     (tickL (Lk.mk kn kst ka kc kl ks kq kt) now).fst.st
     (tickL (Lk.mk kn kst ka kc kl ks kq kt) now).fst.a
     (tickL (Lk.mk kn kst ka kc kl ks kq kt) now).fst.cmd
     (tickL (Lk.mk kn kst ka kc kl ks kq kt) now).fst.len
     (tickL (Lk.mk kn kst ka kc kl ks kq kt) now).fst.s
     (tickL (Lk.mk kn kst ka kc kl ks kq kt) now).fst.q
     (tickL (Lk.mk kn kst ka kc kl ks kq kt) now).fst.t)
     (Ou.mk (tickL (Lk.mk kn kst ka kc kl ks kq kt) now).snd.ps
     (tickL (Lk.mk kn kst ka kc kl ks kq kt) now).snd.dl
     (tickL (Lk.mk kn kst ka kc kl ks kq kt) now).snd.ms
     (tickL (Lk.mk kn kst ka kc kl ks kq kt) now).snd.cn)
     now
     (Rec.mk (fillR (Rec.mk a b c d f s)).1 (fillR (Rec.mk a b c d f s)).2
     (fillR (Rec.mk a b c d f s)).3 (fillR (Rec.mk a b c d f s)).4
     (fillR (Rec.mk a b c d f s)).5 (fillR (Rec.mk a b c d f s)).6)).fst.t],
     AV.agg
     [AV.ownf (1000 : Nat),
     AV.bool
     (beginL
     (Lk.mk (tickL (Lk.mk kn kst ka kc kl ks kq kt) now).fst.n
     (tickL (Lk.mk kn kst ka kc kl ks kq kt) now).fst.st
     (tickL (Lk.mk kn kst ka kc kl ks kq kt) now).fst.a
     (tickL (Lk.mk kn kst ka kc kl ks kq kt) now).fst.cmd
     (tickL (Lk.mk kn kst ka kc kl ks kq kt) now).fst.len
     (tickL (Lk.mk kn kst ka kc kl ks kq kt) now).fst.s
     (tickL (Lk.mk kn kst ka kc kl ks kq kt) now).fst.q
     (tickL (Lk.mk kn kst ka kc kl ks kq kt) now).fst.t)
     (Ou.mk (tickL (Lk.mk kn kst ka kc kl ks kq kt) now).snd.ps
     (tickL (Lk.mk kn kst ka kc kl ks kq kt) now).snd.dl
     (tickL (Lk.mk kn kst ka kc kl ks kq kt) now).snd.ms
     (tickL (Lk.mk kn kst ka kc kl ks kq kt) now).snd.cn)
     now
     (Rec.mk (fillR (Rec.mk a b c d f s)).1 (fillR (Rec.mk a b c d f s)).2
     (fillR (Rec.mk a b c d f s)).3 (fillR (Rec.mk a b c d f s)).4
     (fillR (Rec.mk a b c d f s)).5 (fillR (Rec.mk a b c d f s)).6)).snd.dl,
     AV.ints false IntKind.u8
     (beginL
     (Lk.mk (tickL (Lk.mk kn kst ka kc kl ks kq kt) now).fst.n
     (tickL (Lk.mk kn kst ka kc kl ks kq kt) now).fst.st
     (tickL (Lk.mk kn kst ka kc kl ks kq kt) now).fst.a
     (tickL (Lk.mk kn kst ka kc kl ks kq kt) now).fst.cmd
     (tickL (Lk.mk kn kst ka kc kl ks kq kt) now).fst.len
     (tickL (Lk.mk kn kst ka kc kl ks kq kt) now).fst.s
     (tickL (Lk.mk kn kst ka kc kl ks kq kt) now).fst.q
     (tickL (Lk.mk kn kst ka kc kl ks kq kt) now).fst.t)
     (Ou.mk (tickL (Lk.mk kn kst ka kc kl ks kq kt) now).snd.ps
     (tickL (Lk.mk kn kst ka kc kl ks kq kt) now).snd.dl
     (tickL (Lk.mk kn kst ka kc kl ks kq kt) now).snd.ms
     (tickL (Lk.mk kn kst ka kc kl ks kq kt) now).snd.cn)
     now
     (Rec.mk (fillR (Rec.mk a b c d f s)).1 (fillR (Rec.mk a b c d f s)).2
     (fillR (Rec.mk a b c d f s)).3 (fillR (Rec.mk a b c d f s)).4
     (fillR (Rec.mk a b c d f s)).5 (fillR (Rec.mk a b c d f s)).6)).snd.ms,
     AV.bool
     (beginL
     (Lk.mk (tickL (Lk.mk kn kst ka kc kl ks kq kt) now).fst.n
     (tickL (Lk.mk kn kst ka kc kl ks kq kt) now).fst.st
     (tickL (Lk.mk kn kst ka kc kl ks kq kt) now).fst.a
     (tickL (Lk.mk kn kst ka kc kl ks kq kt) now).fst.cmd
     (tickL (Lk.mk kn kst ka kc kl ks kq kt) now).fst.len
     (tickL (Lk.mk kn kst ka kc kl ks kq kt) now).fst.s
     (tickL (Lk.mk kn kst ka kc kl ks kq kt) now).fst.q
     (tickL (Lk.mk kn kst ka kc kl ks kq kt) now).fst.t)
     (Ou.mk (tickL (Lk.mk kn kst ka kc kl ks kq kt) now).snd.ps
     (tickL (Lk.mk kn kst ka kc kl ks kq kt) now).snd.dl
     (tickL (Lk.mk kn kst ka kc kl ks kq kt) now).snd.ms
     (tickL (Lk.mk kn kst ka kc kl ks kq kt) now).snd.cn)
     now
     (Rec.mk (fillR (Rec.mk a b c d f s)).1 (fillR (Rec.mk a b c d f s)).2
     (fillR (Rec.mk a b c d f s)).3 (fillR (Rec.mk a b c d f s)).4
     (fillR (Rec.mk a b c d f s)).5 (fillR (Rec.mk a b c d f s)).6)).snd.cn]])
     (some
     (AV.linr (38 : Nat) (0 : Nat)
     (beginL
     (Lk.mk (tickL (Lk.mk kn kst ka kc kl ks kq kt) now).fst.n
     (tickL (Lk.mk kn kst ka kc kl ks kq kt) now).fst.st
     (tickL (Lk.mk kn kst ka kc kl ks kq kt) now).fst.a
     (tickL (Lk.mk kn kst ka kc kl ks kq kt) now).fst.cmd
     (tickL (Lk.mk kn kst ka kc kl ks kq kt) now).fst.len
     (tickL (Lk.mk kn kst ka kc kl ks kq kt) now).fst.s
     (tickL (Lk.mk kn kst ka kc kl ks kq kt) now).fst.q
     (tickL (Lk.mk kn kst ka kc kl ks kq kt) now).fst.t)
     (Ou.mk (tickL (Lk.mk kn kst ka kc kl ks kq kt) now).snd.ps
     (tickL (Lk.mk kn kst ka kc kl ks kq kt) now).snd.dl
     (tickL (Lk.mk kn kst ka kc kl ks kq kt) now).snd.ms
     (tickL (Lk.mk kn kst ka kc kl ks kq kt) now).snd.cn)
     now
     (Rec.mk (fillR (Rec.mk a b c d f s)).1 (fillR (Rec.mk a b c d f s)).2
     (fillR (Rec.mk a b c d f s)).3 (fillR (Rec.mk a b c d f s)).4
     (fillR (Rec.mk a b c d f s)).5 (fillR (Rec.mk a b c d f s)).6)).snd.ps))))))))))))) := by kernel_rfl
theorem p42_0 (kn kst ka kc kl kq kt : Int) (ks : List Int) (now : Int) (a b c d : Int) (f : Bool) (s : List Int) (post : AV → Option AV → Prop) (hin : InRL [.agg [.int .i64 kn, .int .i64 kst, .int .u32 ka, .int .i64 kc, .int .i64 kl, .ints false .u8 ks, .int .i64 kq, .int .i64 kt], .int .i64 now, .agg [.int .u32 a, .bool f, .int .i64 b, .int .i64 c, .int .i64 d, .ints false .u8 s]]) (hie : InRO none) (h : chk (decide (ks.length ≤ 100000 ∧ -1000000 ≤ kl ∧ kl ≤ 1000000)) (∀ k' o', recvL ⟨kn, kst, ka, kc, kl, ks, kq, kt⟩ now ⟨a, b, c, d, f, s⟩ = (k', o') → post (.tup [k'.V, o'.E]) (some o'.M))) : Ok (runF c42 pm42 Proofs.Try.f42 [.agg [.int .i64 kn, .int .i64 kst, .int .u32 ka, .int .i64 kc, .int .i64 kl, .ints false .u8 ks, .int .i64 kq, .int .i64 kt], .int .i64 now, .agg [.int .u32 a, .bool f, .int .i64 b, .int .i64 c, .int .i64 d, .ints false .u8 s]] none (post)) := by
  refine ⟨?_⟩
  rw [t42_0]
  obtain ⟨h1, h2⟩ := chk_iff.1 h
  obtain ⟨q1, q2, q3⟩ := of_decide_eq_true h1
  have h3 : retL post (recvL ⟨kn, kst, ka, kc, kl, ks, kq, kt⟩ now ⟨a, b, c, d, f, s⟩) := h2 _ _ rfl
  have hT := tick_small ⟨kn, kst, ka, kc, kl, ks, kq, kt⟩ now q1 q2 q3
  have hin' := hin
  simp only [InRL, InR] at hin'
  have ha := in_u32.1 hin'.2.2.1.1
  clear h h1 h2 hin hin' hie
  unfold recvL at h3
  generalize tickL ⟨kn, kst, ka, kc, kl, ks, kq, kt⟩ now = T at *
  obtain ⟨⟨tn, tst, ta, tc, tl, ts, tq, tt⟩, ⟨ups, udl, ums, ucn⟩⟩ := T
  dsimp only at h3 hT ⊢
  by_cases hk : chkE f b c d s.length = 0
  · have ho : okR ⟨a, b, c, d, f, s⟩ := hk
    have hF : fillR ⟨a, b, c, d, f, s⟩ = padR ⟨a, b, c, d, f, s⟩ := if_pos hk
    have e1 : (padR ⟨a, b, c, d, f, s⟩).a = a := rfl
    have e2 := (ok_any ho)
    have e3 : (padR ⟨a, b, c, d, f, s⟩).c = c := rfl
    have e4 := pad_any ho
    rw [hF]
    generalize padR ⟨a, b, c, d, f, s⟩ = R at *
    obtain ⟨ra, rb, rc, rd, rf, rs⟩ := R
    dsimp only at h3 e1 e2 e3 e4 ⊢
    subst e1 e3
    rw [show IntKind.i64.wrap ra = ra from wrap_i64 (by omega) (by omega)]
    cases rf
    all_goals simp only [Bool.not_true, Bool.not_false, br_true, br_false]
    all_goals dsimp only [recv1] at h3
    all_goals (repeat' first
      | with_reducible refine br_ne (fun _ => ?_) (fun _ => ?_)
      | with_reducible refine br_eq (fun _ => ?_) (fun _ => ?_)
      | with_reducible refine br_dec (fun _ => ?_) (fun _ => ?_)
      | with_reducible refine br_not (br_dec (fun _ => ?_) (fun _ => ?_))
      | with_reducible refine chk_dec (by omega) ?_)
    all_goals first | (exfalso; omega) | skip
    all_goals (repeat first | rw [if_pos (by omega)] at h3 | rw [if_neg (by omega)] at h3 | rw [if_pos rfl] at h3 | rw [if_neg (by decide)] at h3)
    all_goals exact h3
  · repeat' first
    | with_reducible refine br_ne (fun _ => ?_) (fun _ => ?_)
    | with_reducible refine br_eq (fun _ => ?_) (fun _ => ?_)
    | with_reducible refine br_dec (fun _ => ?_) (fun _ => ?_)
    | with_reducible refine br_not (br_dec (fun _ => ?_) (fun _ => ?_))
    | with_reducible refine chk_dec (by omega) ?_
    all_goals first | (exfalso; omega) | skip
    all_goals (repeat first | rw [if_pos (by omega)] at h3 | rw [if_neg (by omega)] at h3 | rw [if_pos rfl] at h3 | rw [if_neg (by decide)] at h3)
    all_goals exact h3
theorem k42 : Keeps Proofs.Try.prog 42 S42 := by
  refine ⟨?_, Proofs.Try.f42, by kernel_rfl, by kernel_rfl, by kernel_rfl⟩
  intro args e post h
  unfold S42 at h
  split at h
  · refine Spec.inR fun hin hie => fun_ok' (c := c42) gamL_ok (l := u42) a42 rfl mixed_ok (fn := Proofs.Try.f42) (show Proofs.Try.prog.funcs[42]? = some Proofs.Try.f42 by kernel_rfl) (by kernel_rfl) (ls := []) rfl (.inl rfl) trivial (pm := pm42) (by simp [c42]) (by rintro ⟨t, l, h⟩; cases h) ?_
    exact p42_0 _ _ _ _ _ _ _ _ _ _ _ _ _ _ _ _ hin hie h
  · exact h.elim
end Go.Proofs.Ytokeanadhihlfaa.V
