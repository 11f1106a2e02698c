import Derived.Test.YtokeanadhihlfaaPlans
import Derived.Test.YtokeanadhihlfaaMB
import Derived.Test.YtokeanadhihlfaaProg
import Derived.Test.YtokeanadhihlfaaS0
import Derived.Test.YtokeanadhihlfaaS1
import Derived.Test.YtokeanadhihlfaaS2
import Derived.Test.YtokeanadhihlfaaS3
import Derived.Test.YtokeanadhihlfaaS4
import Derived.Test.YtokeanadhihlfaaB1
import Derived.Test.YtokeanadhihlfaaP7
import Derived.Test.YtokeanadhihlfaaL1
import Derived.Test.YtokeanadhihlfaaL2
import Derived.Test.YtokeanadhihlfaaL3
import Derived.Test.YtokeanadhihlfaaL4a
import Derived.Test.YtokeanadhihlfaaL4b
import Derived.Test.YtokeanadhihlfaaL4c
import Derived.Test.YtokeanadhihlfaaL5
import Derived.Test.YtokeanadhihlfaaPlansB
import Derived.KernelRfl
set_option linter.all false
set_option maxHeartbeats 1000000
namespace Go.Proofs.Ytokeanadhihlfaa.V
open Go
theorem recv_ping (t z : Int) (h0 : 0 ≤ t) (h1 : t ≤ 1099511627776) (h2 : 58 ≤ z) (h3 : z ≤ 313) : recvL (kN 1) t ⟨1, 1, z, 0, true, []⟩ = (⟨1, 1, 1, 1, z, List.replicate 57 0, 0, t⟩, o0) := by
  have he : extL [] (List.replicate 57 0) z = List.replicate 57 0 := by
    have hs : (imax (imin (z - (([] : List Int).length : Nat)) ((List.replicate 57 (0 : Int)).length : Nat)) 0).toNat = 57 := by
      simp only [List.length_nil, List.length_replicate]
      unfold imin imax
      (repeat' split) <;> omega
    unfold extL
    rw [hs]
    rfl
  unfold recvL
  rw [if_neg (by omega), if_neg (by show ¬ chkE true 1 z 0 0 ≠ 0; simp only [chkE]; rw [if_neg (by omega)]; decide), tick_idle _ t (by show (0 : Int) ≠ 1; decide), recv1, if_neg (by show ¬ true = false; decide), if_neg (by show ¬ (1 : Int) = 4294967295; decide), if_neg (by show ¬ ((1 : Int) < 1 ∨ (1 : Int) < 1); decide), if_neg (by show ¬ (1 : Int) = 6; decide), if_neg (by show ¬ (1 : Int) = 17; decide)]
  unfold beginL
  rw [if_neg (by show ¬ ((0 : Int) = 1 ∧ _); simp), if_neg (by show ¬ (0 : Int) ≠ 0; decide), if_neg (by show ¬ ((1 : Int) ≠ 1 ∧ _); simp), if_neg (by show ¬ z > 4096; omega)]
  show handleL ⟨1, 1, 1, 1, z, extL [] (List.replicate 57 0) z, 0, t⟩ o0 t = _
  rw [he, handleL, if_pos (by show ((List.replicate 57 (0 : Int)).length : Int) < z; rw [List.length_replicate]; omega)]
theorem tick_late (z t w : Int) (D : List Int) (h0 : 0 ≤ t) (h1 : t ≤ 1048576) (h2 : 20 < w) (h3 : w ≤ 60) : tickL ⟨1, 1, 1, 1, z, D, 0, t⟩ (t + w) = (kN 1, ⟨[⟨1, 63, 1, 0, true, [19]⟩], false, [], false⟩) := by
  rw [tickL, wrap_i64 (n := t + w - 20) (by omega) (by omega), if_neg (by show ¬ (t + w < 0 ∨ 1099511627776 < t + w ∨ (1 : Int) ≠ 1 ∨ t + w - 20 ≤ t); omega)]
  rfl
theorem recv_pong (t x : Int) (h0 : 0 ≤ t) (h1 : t ≤ 1099511627776) : recvL (kN 1) t ⟨1, 1, 1, 0, true, [x]⟩ = (kN 1, ⟨[⟨1, 1, 1, 0, true, [x]⟩], false, [], false⟩) := by
  unfold recvL
  rw [if_neg (by omega), if_neg (by show ¬ chkE true 1 1 0 1 ≠ 0; decide), tick_idle _ t (by show (0 : Int) ≠ 1; decide)]
  rfl
def pm14 : Pm := ⟨[.s, .s, .s], .no, [.s]⟩
def u14 : List (Nat × Tr) := [(17, S17), (40, S40), (42, S42), (44, S44), (46, S46), (47, S47)]
theorem a14 : AllKeep Proofs.Try.prog u14 := ⟨k17, k40, k42, k44, k46, k47, trivial⟩

def c14 : Cfg := { n := 132, Γ := GamL, C := ofL u14, pm := pmL [(17, pm17), (40, pm40), (42, pm42), (44, pm44), (46, pm46), (47, pm47)], plan := planB14, L := lpL [], unroll := nmL [], keep := kpL [] }
def S14 : Tr
  | [.int .i64 wait, .int .u8 size, .int .i64 now], none, post => post (.bool true) none
  | _, _, _ => False
theorem t14_0 (wait size now : Int) (post : AV → Option AV → Prop) : runF c14 pm14 Proofs.Try.f14 [.int .i64 wait, .int .u8 size, .int .i64 now] none post = (∀ (k' : Lk) (o' : Ou),
     recvL
     (Lk.mk (kN (1 : Int)).n (kN (1 : Int)).st (kN (1 : Int)).a (kN (1 : Int)).cmd (kN (1 : Int)).len
     (kN (1 : Int)).s (kN (1 : Int)).q (kN (1 : Int)).t)
     (IntKind.u64.wrap now % (1048576 : Int))
     (Rec.mk (1 : Int) (1 : Int) (IntKind.i64.wrap ((58 : Int) + IntKind.i64.wrap size)) (0 : Int) true []) =
     (k', o') →
     br (decide (IntKind.u64.wrap wait % (60 : Int) ≤ (20 : Int)))
     (br
     (@Nat.cast Int _
     (tickL (Lk.mk k'.n k'.st k'.a k'.cmd k'.len k'.s k'.q k'.t)
     (IntKind.i64.wrap
     (IntKind.u64.wrap now % (1048576 : Int) + IntKind.u64.wrap wait % (60 : Int)))).snd.ps.length ==
     (0 : Int))
     (br
     ((tickL (Lk.mk k'.n k'.st k'.a k'.cmd k'.len k'.s k'.q k'.t)
     (IntKind.i64.wrap
     (IntKind.u64.wrap now % (1048576 : Int) + IntKind.u64.wrap wait % (60 : Int)))).fst.st ==
     (1 : Int))
     (Lk.mk k'.n k'.st k'.a k'.cmd k'.len k'.s k'.q k'.t =
     Lk.mk
     (tickL (Lk.mk k'.n k'.st k'.a k'.cmd k'.len k'.s k'.q k'.t)
     (IntKind.i64.wrap
     (IntKind.u64.wrap now % (1048576 : Int) + IntKind.u64.wrap wait % (60 : Int)))).fst.n
     (tickL (Lk.mk k'.n k'.st k'.a k'.cmd k'.len k'.s k'.q k'.t)
     (IntKind.i64.wrap
     (IntKind.u64.wrap now % (1048576 : Int) + IntKind.u64.wrap wait % (60 : Int)))).fst.st
     (tickL (Lk.mk k'.n k'.st k'.a k'.cmd k'.len k'.s k'.q k'.t)
     (IntKind.i64.wrap
     (IntKind.u64.wrap now % (1048576 : Int) + IntKind.u64.wrap wait % (60 : Int)))).fst.a
     (tickL (Lk.mk k'.n k'.st k'.a k'.cmd k'.len k'.s k'.q k'.t)
     (IntKind.i64.wrap
     (IntKind.u64.wrap now % (1048576 : Int) + IntKind.u64.wrap wait % (60 : Int)))).fst.cmd
     (tickL (Lk.mk k'.n k'.st k'.a k'.cmd k'.len k'.s k'.q k'.t)
     (IntKind.i64.wrap
     (IntKind.u64.wrap now % (1048576 : Int) + IntKind.u64.wrap wait % (60 : Int)))).fst.len
     (tickL (Lk.mk k'.n k'.st k'.a k'.cmd k'.len k'.s k'.q k'.t)
     (IntKind.i64.wrap
     (IntKind.u64.wrap now % (1048576 : Int) + IntKind.u64.wrap wait % (60 : Int)))).fst.s
     (tickL (Lk.mk k'.n k'.st k'.a k'.cmd k'.len k'.s k'.q k'.t)
     (IntKind.i64.wrap
     (IntKind.u64.wrap now % (1048576 : Int) + IntKind.u64.wrap wait % (60 : Int)))).fst.q
     (tickL (Lk.mk k'.n k'.st k'.a k'.cmd k'.len k'.s k'.q k'.t)
     (IntKind.i64.wrap
     (IntKind.u64.wrap now % (1048576 : Int) + IntKind.u64.wrap wait % (60 : Int)))).fst.t ∧
     post (AV.bool true) none)
     (post (AV.bool false) none))
     (post (AV.bool false) none))
     (br
     (@Nat.cast Int _
     (tickL (Lk.mk k'.n k'.st k'.a k'.cmd k'.len k'.s k'.q k'.t)
     (IntKind.i64.wrap
     (IntKind.u64.wrap now % (1048576 : Int) + IntKind.u64.wrap wait % (60 : Int)))).snd.ps.length !=
     (1 : Int))
     (post (AV.bool false) none)
     (chk
     (inB (0 : Int)
     (tickL (Lk.mk k'.n k'.st k'.a k'.cmd k'.len k'.s k'.q k'.t)
     (IntKind.i64.wrap
     (IntKind.u64.wrap now % (1048576 : Int) + IntKind.u64.wrap wait % (60 : Int)))).snd.ps.length)
     (chk
     (decide
     ((0 : Nat) <
     (tickL (Lk.mk k'.n k'.st k'.a k'.cmd k'.len k'.s k'.q k'.t)
     (IntKind.i64.wrap
     (IntKind.u64.wrap now % (1048576 : Int) +
     IntKind.u64.wrap wait % (60 : Int)))).snd.ps.length))
     (br
     (((tickL (Lk.mk k'.n k'.st k'.a k'.cmd k'.len k'.s k'.q k'.t)
     (IntKind.i64.wrap
     (IntKind.u64.wrap now % (1048576 : Int) +
     IntKind.u64.wrap wait % (60 : Int)))).snd.ps.getD
     (0 : Nat) default).1 !=
     (1 : Int))
     (post (AV.bool false) none)
     (chk
     (inB (0 : Int)
     (tickL (Lk.mk k'.n k'.st k'.a k'.cmd k'.len k'.s k'.q k'.t)
     (IntKind.i64.wrap
     (IntKind.u64.wrap now % (1048576 : Int) +
     IntKind.u64.wrap wait % (60 : Int)))).snd.ps.length)
     (chk
     (decide
     ((0 : Nat) <
     (tickL (Lk.mk k'.n k'.st k'.a k'.cmd k'.len k'.s k'.q k'.t)
     (IntKind.i64.wrap
     (IntKind.u64.wrap now % (1048576 : Int) +
     IntKind.u64.wrap wait % (60 : Int)))).snd.ps.length))
     (br
     (!strEq
     ((tickL (Lk.mk k'.n k'.st k'.a k'.cmd k'.len k'.s k'.q k'.t)
     (IntKind.i64.wrap
     (IntKind.u64.wrap now % (1048576 : Int) +
     IntKind.u64.wrap wait % (60 : Int)))).snd.ps.getD
     (0 : Nat) default).6
     [(19 : Int)])
     (post (AV.bool false) none)
     (br
     ((tickL (Lk.mk k'.n k'.st k'.a k'.cmd k'.len k'.s k'.q k'.t)
     (IntKind.i64.wrap
     (IntKind.u64.wrap now % (1048576 : Int) +
     IntKind.u64.wrap wait % (60 : Int)))).fst.st !=
     (0 : Int))
     (post (AV.bool false) none)
     (chk
     (decide
     ((tickL (Lk.mk k'.n k'.st k'.a k'.cmd k'.len k'.s k'.q k'.t)
     (IntKind.i64.wrap
     (IntKind.u64.wrap now % (1048576 : Int) +
     IntKind.u64.wrap wait % (60 : Int)))).fst.s.length ≤
     (100000 : Nat) ∧
     (-1000000 : Int) ≤
     (tickL (Lk.mk k'.n k'.st k'.a k'.cmd k'.len k'.s k'.q k'.t)
     (IntKind.i64.wrap
     (IntKind.u64.wrap now % (1048576 : Int) +
     IntKind.u64.wrap wait % (60 : Int)))).fst.len ∧
     (tickL (Lk.mk k'.n k'.st k'.a k'.cmd k'.len k'.s k'.q k'.t)
     (IntKind.i64.wrap
     (IntKind.u64.wrap now % (1048576 : Int) +
     IntKind.u64.wrap wait % (60 : Int)))).fst.len ≤
     (1000000 : Int)))
     (∀ (k'_1 : Lk) (o' : Ou),
     recvL
     (Lk.mk
     (tickL (Lk.mk k'.n k'.st k'.a k'.cmd k'.len k'.s k'.q k'.t)
     (IntKind.i64.wrap
     (IntKind.u64.wrap now % (1048576 : Int) +
     IntKind.u64.wrap wait % (60 : Int)))).fst.n
     (tickL (Lk.mk k'.n k'.st k'.a k'.cmd k'.len k'.s k'.q k'.t)
     (IntKind.i64.wrap
     (IntKind.u64.wrap now % (1048576 : Int) +
     IntKind.u64.wrap wait % (60 : Int)))).fst.st
     (tickL (Lk.mk k'.n k'.st k'.a k'.cmd k'.len k'.s k'.q k'.t)
     (IntKind.i64.wrap
     (IntKind.u64.wrap now % (1048576 : Int) +
     IntKind.u64.wrap wait % (60 : Int)))).fst.a
     (tickL (Lk.mk k'.n k'.st k'.a k'.cmd k'.len k'.s k'.q k'.t)
     (IntKind.i64.wrap
     (IntKind.u64.wrap now % (1048576 : Int) +
     IntKind.u64.wrap wait % (60 : Int)))).fst.cmd
     (tickL (Lk.mk k'.n k'.st k'.a k'.cmd k'.len k'.s k'.q k'.t)
     (IntKind.i64.wrap
     (IntKind.u64.wrap now % (1048576 : Int) +
     IntKind.u64.wrap wait % (60 : Int)))).fst.len
     (tickL (Lk.mk k'.n k'.st k'.a k'.cmd k'.len k'.s k'.q k'.t)
     (IntKind.i64.wrap
     (IntKind.u64.wrap now % (1048576 : Int) +
     IntKind.u64.wrap wait % (60 : Int)))).fst.s
     (tickL (Lk.mk k'.n k'.st k'.a k'.cmd k'.len k'.s k'.q k'.t)
     (IntKind.i64.wrap
     (IntKind.u64.wrap now % (1048576 : Int) +
     IntKind.u64.wrap wait % (60 : Int)))).fst.q
     (tickL (Lk.mk k'.n k'.st k'.a k'.cmd k'.len k'.s k'.q k'.t)
     (IntKind.i64.wrap
     (IntKind.u64.wrap now % (1048576 : Int) +
     IntKind.u64.wrap wait % (60 : Int)))).fst.t)
     (IntKind.i64.wrap
     (IntKind.u64.wrap now % (1048576 : Int) + IntKind.u64.wrap wait % (60 : Int)))
     (Rec.mk (1 : Int) (1 : Int) (1 : Int) (0 : Int) true [size]) =
     (k'_1, o') →
     br (k'_1.st == (0 : Int))
     (br (@Nat.cast Int _ o'.ps.length == (1 : Int))
     (chk (inB (0 : Int) o'.ps.length)
     (chk (decide ((0 : Nat) < o'.ps.length))
     (br ((o'.ps.getD (0 : Nat) default).2 == (1 : Int))
     (chk (inB (0 : Int) o'.ps.length)
     (chk (decide ((0 : Nat) < o'.ps.length))
     (br (strEq (o'.ps.getD (0 : Nat) default).6 [size]) (post (AV.bool true) none)
     (post (AV.bool false) none))))
     (post (AV.bool false) none))))
     (post (AV.bool false) none))
     (post (AV.bool false) none)))))))))))) := by kernel_rfl
theorem p14_0 (wait size now : Int) (post : AV → Option AV → Prop) (hin : InRL [.int .i64 wait, .int .u8 size, .int .i64 now]) (hie : InRO none) (h : post (.bool true) none) : Ok (runF c14 pm14 Proofs.Try.f14 [.int .i64 wait, .int .u8 size, .int .i64 now] none (post)) := by
  refine ⟨?_⟩
  rw [t14_0]
  have hin' := hin
  simp only [InRL, InR] at hin'
  have hs := in_u8.1 hin'.2.1
  have t0 := Int.emod_nonneg (IntKind.u64.wrap now) (show (1048576 : Int) ≠ 0 by omega)
  have t1 := Int.emod_lt_of_pos (IntKind.u64.wrap now) (show (0 : Int) < 1048576 by omega)
  have w0 := Int.emod_nonneg (IntKind.u64.wrap wait) (show (60 : Int) ≠ 0 by omega)
  have w1 := Int.emod_lt_of_pos (IntKind.u64.wrap wait) (show (0 : Int) < 60 by omega)
  rw [wrap_i64 (n := IntKind.u64.wrap now % 1048576 + IntKind.u64.wrap wait % 60) (by omega) (by omega), wrap_i64 (n := size) (by omega) (by omega), wrap_i64 (n := 58 + size) (by omega) (by omega)]
  generalize IntKind.u64.wrap now % 1048576 = t at *
  generalize IntKind.u64.wrap wait % 60 = w at *
  intro k' o' e
  have e' := (recv_ping t (58 + size) (by omega) (by omega) (by omega) (by omega)).symm.trans e
  cases e'
  refine br_dec (fun hw => ?_) (fun hw => ?_)
  · rw [tick_soon ⟨1, 1, 1, 1, 58 + size, List.replicate 57 0, 0, t⟩ (t + w) (by omega) (by omega) (by show t + w - 20 ≤ t; omega)]
    exact ⟨rfl, h⟩
  · rw [tick_late (58 + size) t w (List.replicate 57 0) (by omega) (by omega) (by omega) (by omega)]
    show ∀ (k' : Lk) (o' : Ou), recvL (kN 1) (t + w) ⟨1, 1, 1, 0, true, [size]⟩ = (k', o') → _
    intro k' o' e
    have e' := (recv_pong (t + w) size (by omega) (by omega)).symm.trans e
    cases e'
    show br (strEq [size] [size]) (post (AV.bool true) none) (post (AV.bool false) none)
    rw [strEq_refl]
    exact h
theorem k14 : Keeps Proofs.Try.prog 14 S14 := by
  refine ⟨?_, Proofs.Try.f14, by kernel_rfl, by kernel_rfl, by kernel_rfl⟩
  intro args e post h
  unfold S14 at h
  split at h
  · refine Spec.inR fun hin hie => fun_ok' (c := c14) gamL_ok (l := u14) a14 rfl mixed_ok (fn := Proofs.Try.f14) (show Proofs.Try.prog.funcs[14]? = some Proofs.Try.f14 by kernel_rfl) (by kernel_rfl) (ls := []) rfl (.inl rfl) trivial (pm := pm14) (by simp [c14]) (by rintro ⟨t, l, h⟩; cases h) ?_
    exact p14_0 _ _ _ _ hin hie h
  · exact h.elim
end Go.Proofs.Ytokeanadhihlfaa.V
