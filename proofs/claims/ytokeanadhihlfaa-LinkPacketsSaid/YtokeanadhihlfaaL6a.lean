import Derived.Test.YtokeanadhihlfaaPlans
import Derived.Test.YtokeanadhihlfaaMB
import Derived.Test.YtokeanadhihlfaaProg
import Derived.Test.YtokeanadhihlfaaS0
import Derived.Test.YtokeanadhihlfaaS1
import Derived.Test.YtokeanadhihlfaaS2
import Derived.Test.YtokeanadhihlfaaS3
import Derived.Test.YtokeanadhihlfaaS4
import Derived.Test.YtokeanadhihlfaaB1
import Derived.Test.YtokeanadhihlfaaP7
import Derived.Test.YtokeanadhihlfaaL1
import Derived.Test.YtokeanadhihlfaaL2
import Derived.Test.YtokeanadhihlfaaL3
import Derived.Test.YtokeanadhihlfaaL4a
import Derived.Test.YtokeanadhihlfaaL4b
import Derived.Test.YtokeanadhihlfaaL4c
import Derived.Test.YtokeanadhihlfaaL5
import Derived.Test.YtokeanadhihlfaaPlansB
import Derived.KernelRfl
set_option linter.all false
set_option maxHeartbeats 1000000
namespace Go.Proofs.Ytokeanadhihlfaa.V
open Go
def pm11 : Pm := ⟨[.s, pkS, pkS, .s, .s], .no, [.s]⟩
def u11 : List (Nat × Tr) := [(42, S42), (43, S43), (44, S44), (45, S45), (46, S46), (47, S47)]
theorem a11 : AllKeep Proofs.Try.prog u11 := ⟨k42, k43, k44, k45, k46, k47, trivial⟩

def c11 : Cfg := { n := 93, Γ := GamL, C := ofL u11, pm := pmL [(42, pm42), (43, pm43), (44, pm44), (45, pm45), (46, pm46), (47, pm47)], plan := noP, L := lpL [], unroll := nmL [], keep := kpL [] }
def S11 : Tr
  | [.int .u8 ch, .agg [.int .u32 a, .bool f, .int .i64 b, .int .i64 c, .int .i64 d, .ints false .u8 s], .agg [.int .u32 a', .bool f', .int .i64 b', .int .i64 c', .int .i64 d', .ints false .u8 s'], .int .i64 now, .int .i64 later], none, post => post (.bool true) none
  | _, _, _ => False
theorem t11_0 (ch a b c d a' b' c' d' now later : Int) (f f' : Bool) (s s' : List Int) (post : AV → Option AV → Prop) : runF c11 pm11 Proofs.Try.f11 [.int .u8 ch, .agg [.int .u32 a, .bool f, .int .i64 b, .int .i64 c, .int .i64 d, .ints false .u8 s], .agg [.int .u32 a', .bool f', .int .i64 b', .int .i64 c', .int .i64 d', .ints false .u8 s'], .int .i64 now, .int .i64 later] none post = (br (decide (@Nat.cast Int _ s.length > (200 : Int))) (post (AV.bool true) none)
     (br (decide (@Nat.cast Int _ s'.length > (200 : Int))) (post (AV.bool true) none)
     (chk (decide ((0 : Int) ≤ IntKind.i64.wrap (ch.tmod (5 : Int)) ∧ IntKind.i64.wrap (ch.tmod (5 : Int)) ≤ (10 : Int)))
     (∀ (k' : Lk) (o' : Ou),
     recvL
     (Lk.mk (kN (IntKind.i64.wrap (ch.tmod (5 : Int)))).n (kN (IntKind.i64.wrap (ch.tmod (5 : Int)))).st
     (kN (IntKind.i64.wrap (ch.tmod (5 : Int)))).a (kN (IntKind.i64.wrap (ch.tmod (5 : Int)))).cmd
     (kN (IntKind.i64.wrap (ch.tmod (5 : Int)))).len (kN (IntKind.i64.wrap (ch.tmod (5 : Int)))).s
     (kN (IntKind.i64.wrap (ch.tmod (5 : Int)))).q (kN (IntKind.i64.wrap (ch.tmod (5 : Int)))).t)
     now (Rec.mk a b c d f s) =
     (k', o') →
     ∀ (k'_1 : Lk) (o'_1 : Ou),
     recvR
     (Lk.mk (IntKind.i64.wrap (ch.tmod (5 : Int))) (0 : Int) (0 : Int) (0 : Int) (0 : Int) [] (0 : Int)
     (0 : Int))
     now (Rec.mk a b c d f s) =
     (k'_1, o'_1) →
     Lk.mk k'.n k'.st k'.a k'.cmd k'.len k'.s k'.q k'.t =
     Lk.mk k'_1.n k'_1.st k'_1.a k'_1.cmd k'_1.len k'_1.s k'_1.q k'_1.t ∧
     Ou.mk o'.ps o'.dl o'.ms o'.cn = Ou.mk o'_1.ps o'_1.dl o'_1.ms o'_1.cn ∧
     chk (decide (k'.s.length ≤ (100000 : Nat) ∧ (-1000000 : Int) ≤ k'.len ∧ k'.len ≤ (1000000 : Int)))
     (∀ (k'_2 : Lk) (o' : Ou),
     recvL (Lk.mk k'.n k'.st k'.a k'.cmd k'.len k'.s k'.q k'.t) (imax now later)
     (Rec.mk a' b' c' d' f' s') =
     (k'_2, o') →
     chk
     (decide
     (k'_1.s.length ≤ (100000 : Nat) ∧ (-1000000 : Int) ≤ k'_1.len ∧ k'_1.len ≤ (1000000 : Int)))
     (∀ (k' : Lk) (o'_2 : Ou),
     recvR (Lk.mk k'_1.n k'_1.st k'_1.a k'_1.cmd k'_1.len k'_1.s k'_1.q k'_1.t) (imax now later)
     (Rec.mk a' b' c' d' f' s') =
     (k', o'_2) →
     Lk.mk k'_2.n k'_2.st k'_2.a k'_2.cmd k'_2.len k'_2.s k'_2.q k'_2.t =
     Lk.mk k'.n k'.st k'.a k'.cmd k'.len k'.s k'.q k'.t ∧
     Ou.mk o'.ps o'.dl o'.ms o'.cn = Ou.mk o'_2.ps o'_2.dl o'_2.ms o'_2.cn ∧
     post (AV.bool true) none)))))) := by kernel_rfl
theorem p11_0 (ch a b c d a' b' c' d' now later : Int) (f f' : Bool) (s s' : List Int) (post : AV → Option AV → Prop) (hin : InRL [.int .u8 ch, .agg [.int .u32 a, .bool f, .int .i64 b, .int .i64 c, .int .i64 d, .ints false .u8 s], .agg [.int .u32 a', .bool f', .int .i64 b', .int .i64 c', .int .i64 d', .ints false .u8 s'], .int .i64 now, .int .i64 later]) (hie : InRO none) (h : post (.bool true) none) : Ok (runF c11 pm11 Proofs.Try.f11 [.int .u8 ch, .agg [.int .u32 a, .bool f, .int .i64 b, .int .i64 c, .int .i64 d, .ints false .u8 s], .agg [.int .u32 a', .bool f', .int .i64 b', .int .i64 c', .int .i64 d', .ints false .u8 s'], .int .i64 now, .int .i64 later] none (post)) := by
  refine ⟨?_⟩
  rw [t11_0]
  have hin' := hin
  simp only [InRL, InR] at hin'
  obtain ⟨hch, ⟨ha, _⟩, ⟨ha', _⟩, _⟩ := hin'
  have hc8 := in_u8.1 hch
  have hn : IntKind.i64.wrap (ch.tmod 5) = ch % 5 := by rw [Int.tmod_eq_emod_of_nonneg (by omega), wrap_i64 (by omega) (by omega)]
  rw [hn]
  have hn0 : 0 ≤ ch % 5 ∧ ch % 5 ≤ 4 := by omega
  generalize ch % 5 = n at *
  have inv : LInv (kN n) := ⟨by show 0 ≤ n; omega, by show n ≤ 32; omega, Int.le_refl 0, (show (0 : Int) ≤ 1099511627776 by decide), Int.le_refl 0, (show (0 : Int) ≤ 4096 by decide), Int.le_refl 0, (fun h => by cases h), .inl rfl⟩
  refine br_dec (fun _ => h) (fun _ => br_dec (fun _ => h) (fun _ => chk_dec (by omega) (fun k1 o1 e1 k2 o2 e2 => ?_)))
  have e1' : recvL (kN n) now ⟨a, b, c, d, f, s⟩ = (k1, o1) := e1
  have e2' : recvR (kN n) now ⟨a, b, c, d, f, s⟩ = (k2, o2) := e2
  have heq := e1'.symm.trans ((recv_eq (kN n) now ⟨a, b, c, d, f, s⟩ inv (fun _ => ha)).trans e2')
  cases heq
  have inv1 : LInv k1 := by
    have := recv_inv (k := kN n) (now := now) (p := ⟨a, b, c, d, f, s⟩) inv
    rw [e1'] at this
    exact this
  have i0 := inv1.l0
  have i1 := inv1.l1
  have i2 := inv1.ls
  refine ⟨rfl, rfl, chk_dec ⟨by omega, by omega, by omega⟩ (fun k3 o3 e3 => chk_dec ⟨by omega, by omega, by omega⟩ (fun k4 o4 e4 => ?_))⟩
  have e3' : recvL k1 (imax now later) ⟨a', b', c', d', f', s'⟩ = (k3, o3) := e3
  have e4' : recvR k1 (imax now later) ⟨a', b', c', d', f', s'⟩ = (k4, o4) := e4
  have heq2 := e3'.symm.trans ((recv_eq k1 _ ⟨a', b', c', d', f', s'⟩ inv1 (fun _ => ha')).trans e4')
  cases heq2
  exact ⟨rfl, rfl, h⟩
theorem k11 : Keeps Proofs.Try.prog 11 S11 := by
  refine ⟨?_, Proofs.Try.f11, by kernel_rfl, by kernel_rfl, by kernel_rfl⟩
  intro args e post h
  unfold S11 at h
  split at h
  · refine Spec.inR fun hin hie => fun_ok' (c := c11) gamL_ok (l := u11) a11 rfl mixed_ok (fn := Proofs.Try.f11) (show Proofs.Try.prog.funcs[11]? = some Proofs.Try.f11 by kernel_rfl) (by kernel_rfl) (ls := []) rfl (.inl rfl) trivial (pm := pm11) (by simp [c11]) (by rintro ⟨t, l, h⟩; cases h) ?_
    exact p11_0 _ _ _ _ _ _ _ _ _ _ _ _ _ _ _ _ hin hie h
  · exact h.elim
end Go.Proofs.Ytokeanadhihlfaa.V
