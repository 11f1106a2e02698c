import Derived.Test.YtokeanadhihlfaaPlans
import Derived.Test.YtokeanadhihlfaaMB
import Derived.Test.YtokeanadhihlfaaProg
import Derived.Test.YtokeanadhihlfaaS0
import Derived.Test.YtokeanadhihlfaaS1
import Derived.Test.YtokeanadhihlfaaS2
import Derived.Test.YtokeanadhihlfaaS3
import Derived.Test.YtokeanadhihlfaaS4
import Derived.Test.YtokeanadhihlfaaB1
import Derived.Test.YtokeanadhihlfaaP5
import Derived.Test.YtokeanadhihlfaaL1
import Derived.Test.YtokeanadhihlfaaL2
import Derived.Test.YtokeanadhihlfaaPlansB
import Derived.KernelRfl
set_option linter.all false
set_option maxHeartbeats 1000000
namespace Go.Proofs.Ytokeanadhihlfaa.V
open Go
def retL (post : AV → Option AV → Prop) (x : Lk × Ou) : Prop := post (.tup [x.1.V, x.2.E]) (some x.2.M)
def retR (post : AV → Option AV → Prop) (x : Lk × Ou) : Prop := post (.tup [x.1.V, x.2.V]) none
theorem pad_rng (r : Rec) : 57 ≤ (padR r).s.length ∧ (padR r).s.length ≤ r.s.length + 59 ∧ (r.f = false → 59 ≤ (padR r).s.length) := by
  obtain ⟨a, b, c, d, f, s⟩ := r
  cases f <;> simp only [padR, List.length_append, List.length_replicate] <;> refine ⟨by omega, by omega, fun h => ?_⟩
  · omega
  · cases h
theorem b4_len (a : Int) : (b4 a).length = 4 := rfl
def pm63 : Pm := ⟨[lkS, ouP, .s, pkS], .ln 1 0 (.lr 38 0), [lkS, ouR]⟩
def u63 : List (Nat × Tr) := [(58, S58), (60, S60), (70, S70), (76, S76)]
theorem a63 : AllKeep Proofs.Try.prog u63 := ⟨k58, k60, k70, k76, trivial⟩

def c63 : Cfg := { n := 53, Γ := GamL, C := ofL u63, pm := pmL [(58, pm58), (60, pm60), (70, pm70), (76, pm76)], plan := planB63, L := lpL [], unroll := nmL [], keep := kpL [] }
def S63 : Tr
  | [.agg [.int .i64 kn, .int .i64 kst, .int .u32 ka, .int .i64 kc, .int .i64 kl, .ints false .u8 ks, .int .i64 kq, .int .i64 kt], .agg [.ownf 1000, .bool dl, .ints false .u8 ms, .bool cn], .int .i64 now, .agg [.int .u32 a, .bool f, .int .i64 b, .int .i64 c, .int .i64 d, .ints false .u8 s]], some (.linr 38 0 ps), post => chk (decide (ps.length ≤ 100000 ∧ ks.length ≤ 100000 ∧ s.length ≤ 100000 ∧ -1000000 ≤ kl ∧ kl ≤ 1000000 ∧ 0 ≤ c ∧ c ≤ 1000000)) (retL post (procL ⟨kn, kst, ka, kc, kl, ks, kq, kt⟩ ⟨ps, dl, ms, cn⟩ now ⟨a, b, c, d, f, s⟩))
  | _, _, _ => False
theorem t63_0 (kn kst ka kc kl kq kt : Int) (ks : List Int) (ps : List Rec) (ms : List Int) (dl cn : Bool) (now : Int) (a b c d : Int) (f : Bool) (s : List Int) (post : AV → Option AV → Prop) : runF c63 pm63 Proofs.Try.f63 [.agg [.int .i64 kn, .int .i64 kst, .int .u32 ka, .int .i64 kc, .int .i64 kl, .ints false .u8 ks, .int .i64 kq, .int .i64 kt], .agg [.ownf 1000, .bool dl, .ints false .u8 ms, .bool cn], .int .i64 now, .agg [.int .u32 a, .bool f, .int .i64 b, .int .i64 c, .int .i64 d, .ints false .u8 s]] (some (.linr 38 0 ps)) post = (br (kst != (1 : Int))
     (post
     (AV.tup
     [AV.agg
     [AV.int IntKind.i64 kn, AV.int IntKind.i64 kst, AV.int IntKind.u32 ka, AV.int IntKind.i64 kc,
     AV.int IntKind.i64 kl, AV.ints false IntKind.u8 ks, AV.int IntKind.i64 kq, AV.int IntKind.i64 kt],
     AV.agg [AV.ownf (1000 : Nat), AV.bool dl, AV.ints false IntKind.u8 ms, AV.bool cn]])
     (some (AV.linr (38 : Nat) (0 : Nat) ps)))
     (br (ka != a)
     (post
     (AV.tup
     [AV.agg
     [AV.int IntKind.i64 kn, AV.int IntKind.i64 kst, AV.int IntKind.u32 ka, AV.int IntKind.i64 kc,
     AV.int IntKind.i64 kl, AV.ints false IntKind.u8 ks, AV.int IntKind.i64 kq, AV.int IntKind.i64 kt],
     AV.agg [AV.ownf (1000 : Nat), AV.bool dl, AV.ints false IntKind.u8 ms, AV.bool cn]])
     (some (AV.linr (38 : Nat) (0 : Nat) ps)))
     (br (d != kq)
     (chk (decide (ps.length ≤ (100000 : Nat)))
     (post
     (AV.tup
     [AV.agg
     [AV.int IntKind.i64 (idleL (Lk.mk kn kst ka kc kl ks kq kt)).n,
     AV.int IntKind.i64 (idleL (Lk.mk kn kst ka kc kl ks kq kt)).st,
     AV.int IntKind.u32 (idleL (Lk.mk kn kst ka kc kl ks kq kt)).a,
     AV.int IntKind.i64 (idleL (Lk.mk kn kst ka kc kl ks kq kt)).cmd,
     AV.int IntKind.i64 (idleL (Lk.mk kn kst ka kc kl ks kq kt)).len,
     AV.ints false IntKind.u8 (idleL (Lk.mk kn kst ka kc kl ks kq kt)).s,
     AV.int IntKind.i64 (idleL (Lk.mk kn kst ka kc kl ks kq kt)).q,
     AV.int IntKind.i64 (idleL (Lk.mk kn kst ka kc kl ks kq kt)).t],
     AV.agg
     [AV.ownf (1000 : Nat), AV.bool (refuseO (Ou.mk ps dl ms cn) a (33 : Int)).dl,
     AV.ints false IntKind.u8 (refuseO (Ou.mk ps dl ms cn) a (33 : Int)).ms,
     AV.bool (refuseO (Ou.mk ps dl ms cn) a (33 : Int)).cn]])
     (some (AV.linr (38 : Nat) (0 : Nat) (refuseO (Ou.mk ps dl ms cn) a (33 : Int)).ps))))
     (chk
     (decide (ks.length ≤ (100000 : Nat) ∧ s.length ≤ (100000 : Nat) ∧ (-1000000 : Int) ≤ kl ∧ kl ≤ (1000000 : Int)))
     (chk (decide (ps.length ≤ (100000 : Nat)))
     (post
     (AV.tup
     [AV.agg
     [AV.int IntKind.i64
     (handleL (Lk.mk kn kst ka kc kl (extL ks s kl) (IntKind.i64.wrap (kq + (1 : Int))) now)
     (Ou.mk ps dl ms cn) now).fst.n,
     AV.int IntKind.i64
     (handleL (Lk.mk kn kst ka kc kl (extL ks s kl) (IntKind.i64.wrap (kq + (1 : Int))) now)
     (Ou.mk ps dl ms cn) now).fst.st,
     AV.int IntKind.u32
     (handleL (Lk.mk kn kst ka kc kl (extL ks s kl) (IntKind.i64.wrap (kq + (1 : Int))) now)
     (Ou.mk ps dl ms cn) now).fst.a,
     AV.int IntKind.i64
     (handleL (Lk.mk kn kst ka kc kl (extL ks s kl) (IntKind.i64.wrap (kq + (1 : Int))) now)
     (Ou.mk ps dl ms cn) now).fst.cmd,
     AV.int IntKind.i64
     (handleL (Lk.mk kn kst ka kc kl (extL ks s kl) (IntKind.i64.wrap (kq + (1 : Int))) now)
     (Ou.mk ps dl ms cn) now).fst.len,
     AV.ints false IntKind.u8
     (handleL (Lk.mk kn kst ka kc kl (extL ks s kl) (IntKind.i64.wrap (kq + (1 : Int))) now)
     (Ou.mk ps dl ms cn) now).fst.s,
     AV.int IntKind.i64
     (handleL (Lk.mk kn kst ka kc kl (extL ks s kl) (IntKind.i64.wrap (kq + (1 : Int))) now)
     (Ou.mk ps dl ms cn) now).fst.q,
     AV.int IntKind.i64
     (handleL (Lk.mk kn kst ka kc kl (extL ks s kl) (IntKind.i64.wrap (kq + (1 : Int))) now)
     (Ou.mk ps dl ms cn) now).fst.t],
     AV.agg
     [AV.ownf (1000 : Nat),
     AV.bool
     (handleL (Lk.mk kn kst ka kc kl (extL ks s kl) (IntKind.i64.wrap (kq + (1 : Int))) now)
     (Ou.mk ps dl ms cn) now).snd.dl,
     AV.ints false IntKind.u8
     (handleL (Lk.mk kn kst ka kc kl (extL ks s kl) (IntKind.i64.wrap (kq + (1 : Int))) now)
     (Ou.mk ps dl ms cn) now).snd.ms,
     AV.bool
     (handleL (Lk.mk kn kst ka kc kl (extL ks s kl) (IntKind.i64.wrap (kq + (1 : Int))) now)
     (Ou.mk ps dl ms cn) now).snd.cn]])
     (some
     (AV.linr (38 : Nat) (0 : Nat)
     (handleL (Lk.mk kn kst ka kc kl (extL ks s kl) (IntKind.i64.wrap (kq + (1 : Int))) now)
     (Ou.mk ps dl ms cn) now).snd.ps)))))))) := by kernel_rfl
theorem p63_0 (kn kst ka kc kl kq kt : Int) (ks : List Int) (ps : List Rec) (ms : List Int) (dl cn : Bool) (now : Int) (a b c d : Int) (f : Bool) (s : List Int) (post : AV → Option AV → Prop) (hin : InRL [.agg [.int .i64 kn, .int .i64 kst, .int .u32 ka, .int .i64 kc, .int .i64 kl, .ints false .u8 ks, .int .i64 kq, .int .i64 kt], .agg [.ownf 1000, .bool dl, .ints false .u8 ms, .bool cn], .int .i64 now, .agg [.int .u32 a, .bool f, .int .i64 b, .int .i64 c, .int .i64 d, .ints false .u8 s]]) (hie : InRO (some (.linr 38 0 ps))) (h : chk (decide (ps.length ≤ 100000 ∧ ks.length ≤ 100000 ∧ s.length ≤ 100000 ∧ -1000000 ≤ kl ∧ kl ≤ 1000000 ∧ 0 ≤ c ∧ c ≤ 1000000)) (retL post (procL ⟨kn, kst, ka, kc, kl, ks, kq, kt⟩ ⟨ps, dl, ms, cn⟩ now ⟨a, b, c, d, f, s⟩))) : Ok (runF c63 pm63 Proofs.Try.f63 [.agg [.int .i64 kn, .int .i64 kst, .int .u32 ka, .int .i64 kc, .int .i64 kl, .ints false .u8 ks, .int .i64 kq, .int .i64 kt], .agg [.ownf 1000, .bool dl, .ints false .u8 ms, .bool cn], .int .i64 now, .agg [.int .u32 a, .bool f, .int .i64 b, .int .i64 c, .int .i64 d, .ints false .u8 s]] (some (.linr 38 0 ps)) (post)) := by
  refine ⟨?_⟩
  rw [t63_0]
  obtain ⟨h1, h2⟩ := chk_iff.1 h
  have hq := of_decide_eq_true h1
  clear h h1 hin hie
  repeat' first
    | with_reducible refine br_ne (fun _ => ?_) (fun _ => ?_)
    | with_reducible refine br_eq (fun _ => ?_) (fun _ => ?_)
    | with_reducible refine br_dec (fun _ => ?_) (fun _ => ?_)
    | with_reducible refine chk_dec (by omega) ?_
  all_goals first | (exfalso; omega) | dsimp only [procL] at h2
  all_goals (repeat first | rw [if_pos (by omega)] at h2 | rw [if_neg (by omega)] at h2)
  all_goals exact h2
theorem k63 : Keeps Proofs.Try.prog 63 S63 := by
  refine ⟨?_, Proofs.Try.f63, by kernel_rfl, by kernel_rfl, by kernel_rfl⟩
  intro args e post h
  unfold S63 at h
  split at h
  · refine Spec.inR fun hin hie => fun_ok' (c := c63) gamL_ok (l := u63) a63 rfl mixed_ok (fn := Proofs.Try.f63) (show Proofs.Try.prog.funcs[63]? = some Proofs.Try.f63 by kernel_rfl) (by kernel_rfl) (ls := []) rfl (.inl rfl) trivial (pm := pm63) (by simp [c63]) (by rintro ⟨t, l, h⟩; cases h) ?_
    exact p63_0 _ _ _ _ _ _ _ _ _ _ _ _ _ _ _ _ _ _ _ _ hin hie h
  · exact h.elim
def pm64 : Pm := ⟨[lkS, ouP, pkS], .ln 1 0 (.lr 38 0), [lkS, ouR]⟩
def u64 : List (Nat × Tr) := [(60, S60), (74, S74), (77, S77)]
theorem a64 : AllKeep Proofs.Try.prog u64 := ⟨k60, k74, k77, trivial⟩

def c64 : Cfg := { n := 41, Γ := GamL, C := ofL u64, pm := pmL [(60, pm60), (74, pm74), (77, pm77)], plan := planB64, L := lpL [], unroll := nmL [], keep := kpL [] }
def S64 : Tr
  | [.agg [.int .i64 kn, .int .i64 kst, .int .u32 ka, .int .i64 kc, .int .i64 kl, .ints false .u8 ks, .int .i64 kq, .int .i64 kt], .agg [.ownf 1000, .bool dl, .ints false .u8 ms, .bool cn], .agg [.int .u32 a, .bool f, .int .i64 b, .int .i64 c, .int .i64 d, .ints false .u8 s]], some (.linr 38 0 ps), post => chk (decide (ps.length ≤ 100000 ∧ 8 ≤ s.length)) (retL post (allocL ⟨kn, kst, ka, kc, kl, ks, kq, kt⟩ ⟨ps, dl, ms, cn⟩ ⟨a, b, c, d, f, s⟩))
  | _, _, _ => False
theorem t64_0 (kn kst ka kc kl kq kt : Int) (ks : List Int) (ps : List Rec) (ms : List Int) (dl cn : Bool) (a b c d : Int) (f : Bool) (s : List Int) (post : AV → Option AV → Prop) : runF c64 pm64 Proofs.Try.f64 [.agg [.int .i64 kn, .int .i64 kst, .int .u32 ka, .int .i64 kc, .int .i64 kl, .ints false .u8 ks, .int .i64 kq, .int .i64 kt], .agg [.ownf 1000, .bool dl, .ints false .u8 ms, .bool cn], .agg [.int .u32 a, .bool f, .int .i64 b, .int .i64 c, .int .i64 d, .ints false .u8 s]] (some (.linr 38 0 ps)) post = (br (b != (6 : Int))
     (chk (decide (ps.length ≤ (100000 : Nat)))
     (post
     (AV.tup
     [AV.agg
     [AV.int IntKind.i64 kn, AV.int IntKind.i64 kst, AV.int IntKind.u32 ka, AV.int IntKind.i64 kc,
     AV.int IntKind.i64 kl, AV.ints false IntKind.u8 ks, AV.int IntKind.i64 kq, AV.int IntKind.i64 kt],
     AV.agg
     [AV.ownf (1000 : Nat), AV.bool (refuseO (Ou.mk ps dl ms cn) (4294967295 : Int) (3 : Int)).dl,
     AV.ints false IntKind.u8 (refuseO (Ou.mk ps dl ms cn) (4294967295 : Int) (3 : Int)).ms,
     AV.bool (refuseO (Ou.mk ps dl ms cn) (4294967295 : Int) (3 : Int)).cn]])
     (some (AV.linr (38 : Nat) (0 : Nat) (refuseO (Ou.mk ps dl ms cn) (4294967295 : Int) (3 : Int)).ps))))
     (br (c != (8 : Int))
     (chk (decide (ps.length ≤ (100000 : Nat)))
     (post
     (AV.tup
     [AV.agg
     [AV.int IntKind.i64 kn, AV.int IntKind.i64 kst, AV.int IntKind.u32 ka, AV.int IntKind.i64 kc,
     AV.int IntKind.i64 kl, AV.ints false IntKind.u8 ks, AV.int IntKind.i64 kq, AV.int IntKind.i64 kt],
     AV.agg
     [AV.ownf (1000 : Nat), AV.bool (refuseO (Ou.mk ps dl ms cn) (4294967295 : Int) (2 : Int)).dl,
     AV.ints false IntKind.u8 (refuseO (Ou.mk ps dl ms cn) (4294967295 : Int) (2 : Int)).ms,
     AV.bool (refuseO (Ou.mk ps dl ms cn) (4294967295 : Int) (2 : Int)).cn]])
     (some (AV.linr (38 : Nat) (0 : Nat) (refuseO (Ou.mk ps dl ms cn) (4294967295 : Int) (2 : Int)).ps))))
     (br (decide (kn ≥ (32 : Int)))
     (chk (decide (ps.length ≤ (100000 : Nat)))
     (post
     (AV.tup
     [AV.agg
     [AV.int IntKind.i64 kn, AV.int IntKind.i64 kst, AV.int IntKind.u32 ka, AV.int IntKind.i64 kc,
     AV.int IntKind.i64 kl, AV.ints false IntKind.u8 ks, AV.int IntKind.i64 kq, AV.int IntKind.i64 kt],
     AV.agg
     [AV.ownf (1000 : Nat), AV.bool (refuseO (Ou.mk ps dl ms cn) (4294967295 : Int) (12 : Int)).dl,
     AV.ints false IntKind.u8 (refuseO (Ou.mk ps dl ms cn) (4294967295 : Int) (12 : Int)).ms,
     AV.bool (refuseO (Ou.mk ps dl ms cn) (4294967295 : Int) (12 : Int)).cn]])
     (some (AV.linr (38 : Nat) (0 : Nat) (refuseO (Ou.mk ps dl ms cn) (4294967295 : Int) (12 : Int)).ps))))
     (chk (decide ((8 : Nat) ≤ s.length))
     (chk (decide (ps.length ≤ (100000 : Nat)))
     (post
     (AV.tup
     [AV.agg
     [AV.int IntKind.i64 (IntKind.i64.wrap (kn + (1 : Int))), AV.int IntKind.i64 kst,
     AV.int IntKind.u32 ka, AV.int IntKind.i64 kc, AV.int IntKind.i64 kl, AV.ints false IntKind.u8 ks,
     AV.int IntKind.i64 kq, AV.int IntKind.i64 kt],
     AV.agg
     [AV.ownf (1000 : Nat),
     AV.bool
     (replyO (Ou.mk ps dl ms cn) (4294967295 : Int) (6 : Int)
     (List.take (8 : Nat) s ++ b4 (IntKind.u32.wrap (IntKind.i64.wrap (kn + (1 : Int)))))).dl,
     AV.ints false IntKind.u8
     (replyO (Ou.mk ps dl ms cn) (4294967295 : Int) (6 : Int)
     (List.take (8 : Nat) s ++ b4 (IntKind.u32.wrap (IntKind.i64.wrap (kn + (1 : Int)))))).ms,
     AV.bool
     (replyO (Ou.mk ps dl ms cn) (4294967295 : Int) (6 : Int)
     (List.take (8 : Nat) s ++ b4 (IntKind.u32.wrap (IntKind.i64.wrap (kn + (1 : Int)))))).cn]])
     (some
     (AV.linr (38 : Nat) (0 : Nat)
     (replyO (Ou.mk ps dl ms cn) (4294967295 : Int) (6 : Int)
     (List.take (8 : Nat) s ++ b4 (IntKind.u32.wrap (IntKind.i64.wrap (kn + (1 : Int)))))).ps)))))))) := by kernel_rfl
theorem p64_0 (kn kst ka kc kl kq kt : Int) (ks : List Int) (ps : List Rec) (ms : List Int) (dl cn : Bool) (a b c d : Int) (f : Bool) (s : List Int) (post : AV → Option AV → Prop) (hin : InRL [.agg [.int .i64 kn, .int .i64 kst, .int .u32 ka, .int .i64 kc, .int .i64 kl, .ints false .u8 ks, .int .i64 kq, .int .i64 kt], .agg [.ownf 1000, .bool dl, .ints false .u8 ms, .bool cn], .agg [.int .u32 a, .bool f, .int .i64 b, .int .i64 c, .int .i64 d, .ints false .u8 s]]) (hie : InRO (some (.linr 38 0 ps))) (h : chk (decide (ps.length ≤ 100000 ∧ 8 ≤ s.length)) (retL post (allocL ⟨kn, kst, ka, kc, kl, ks, kq, kt⟩ ⟨ps, dl, ms, cn⟩ ⟨a, b, c, d, f, s⟩))) : Ok (runF c64 pm64 Proofs.Try.f64 [.agg [.int .i64 kn, .int .i64 kst, .int .u32 ka, .int .i64 kc, .int .i64 kl, .ints false .u8 ks, .int .i64 kq, .int .i64 kt], .agg [.ownf 1000, .bool dl, .ints false .u8 ms, .bool cn], .agg [.int .u32 a, .bool f, .int .i64 b, .int .i64 c, .int .i64 d, .ints false .u8 s]] (some (.linr 38 0 ps)) (post)) := by
  refine ⟨?_⟩
  rw [t64_0]
  obtain ⟨h1, h2⟩ := chk_iff.1 h
  have hq := of_decide_eq_true h1
  clear h h1 hin hie
  repeat' first
    | with_reducible refine br_ne (fun _ => ?_) (fun _ => ?_)
    | with_reducible refine br_eq (fun _ => ?_) (fun _ => ?_)
    | with_reducible refine br_dec (fun _ => ?_) (fun _ => ?_)
    | with_reducible refine chk_dec (by omega) ?_
  all_goals first | (exfalso; omega) | dsimp only [allocL] at h2
  all_goals (repeat first | rw [if_pos (by omega)] at h2 | rw [if_neg (by omega)] at h2)
  all_goals exact h2
theorem k64 : Keeps Proofs.Try.prog 64 S64 := by
  refine ⟨?_, Proofs.Try.f64, by kernel_rfl, by kernel_rfl, by kernel_rfl⟩
  intro args e post h
  unfold S64 at h
  split at h
  · refine Spec.inR fun hin hie => fun_ok' (c := c64) gamL_ok (l := u64) a64 rfl mixed_ok (fn := Proofs.Try.f64) (show Proofs.Try.prog.funcs[64]? = some Proofs.Try.f64 by kernel_rfl) (by kernel_rfl) (ls := []) rfl (.inl rfl) trivial (pm := pm64) (by simp [c64]) (by rintro ⟨t, l, h⟩; cases h) ?_
    exact p64_0 _ _ _ _ _ _ _ _ _ _ _ _ _ _ _ _ _ _ _ hin hie h
  · exact h.elim
def pm65 : Pm := ⟨[lkS, ouP, pkS], .ln 1 0 (.lr 38 0), [lkS, ouR]⟩
def u65 : List (Nat × Tr) := [(58, S58), (60, S60), (74, S74), (77, S77), (78, S78)]
theorem a65 : AllKeep Proofs.Try.prog u65 := ⟨k58, k60, k74, k77, k78, trivial⟩

def c65 : Cfg := { n := 35, Γ := GamL, C := ofL u65, pm := pmL [(58, pm58), (60, pm60), (74, pm74), (77, pm77), (78, pm78)], plan := planB65, L := lpL [], unroll := nmL [], keep := kpL [] }
def S65 : Tr
  | [.agg [.int .i64 kn, .int .i64 kst, .int .u32 ka, .int .i64 kc, .int .i64 kl, .ints false .u8 ks, .int .i64 kq, .int .i64 kt], .agg [.ownf 1000, .bool dl, .ints false .u8 ms, .bool cn], .agg [.int .u32 a, .bool f, .int .i64 b, .int .i64 c, .int .i64 d, .ints false .u8 s]], some (.linr 38 0 ps), post => chk (decide (ps.length ≤ 100000 ∧ 8 ≤ s.length)) (retL post (renewL ⟨kn, kst, ka, kc, kl, ks, kq, kt⟩ ⟨ps, dl, ms, cn⟩ ⟨a, b, c, d, f, s⟩))
  | _, _, _ => False
theorem t65_0 (kn kst ka kc kl kq kt : Int) (ks : List Int) (ps : List Rec) (ms : List Int) (dl cn : Bool) (a b c d : Int) (f : Bool) (s : List Int) (post : AV → Option AV → Prop) : runF c65 pm65 Proofs.Try.f65 [.agg [.int .i64 kn, .int .i64 kst, .int .u32 ka, .int .i64 kc, .int .i64 kl, .ints false .u8 ks, .int .i64 kq, .int .i64 kt], .agg [.ownf 1000, .bool dl, .ints false .u8 ms, .bool cn], .agg [.int .u32 a, .bool f, .int .i64 b, .int .i64 c, .int .i64 d, .ints false .u8 s]] (some (.linr 38 0 ps)) post = (br (c != (8 : Int))
     (chk (decide (ps.length ≤ (100000 : Nat)))
     (post
     (AV.tup
     [AV.agg
     [AV.int IntKind.i64 kn, AV.int IntKind.i64 kst, AV.int IntKind.u32 ka, AV.int IntKind.i64 kc,
     AV.int IntKind.i64 kl, AV.ints false IntKind.u8 ks, AV.int IntKind.i64 kq, AV.int IntKind.i64 kt],
     AV.agg
     [AV.ownf (1000 : Nat), AV.bool (refuseO (Ou.mk ps dl ms cn) a (2 : Int)).dl,
     AV.ints false IntKind.u8 (refuseO (Ou.mk ps dl ms cn) a (2 : Int)).ms,
     AV.bool (refuseO (Ou.mk ps dl ms cn) a (2 : Int)).cn]])
     (some (AV.linr (38 : Nat) (0 : Nat) (refuseO (Ou.mk ps dl ms cn) a (2 : Int)).ps))))
     (br (decide (kst ≠ (0 : Int) ∧ ka = a))
     (chk (decide ((8 : Nat) ≤ s.length))
     (chk (decide (ps.length ≤ (100000 : Nat)))
     (post
     (AV.tup
     [AV.agg
     [AV.int IntKind.i64 (idleL (Lk.mk kn kst ka kc kl ks kq kt)).n,
     AV.int IntKind.i64 (idleL (Lk.mk kn kst ka kc kl ks kq kt)).st,
     AV.int IntKind.u32 (idleL (Lk.mk kn kst ka kc kl ks kq kt)).a,
     AV.int IntKind.i64 (idleL (Lk.mk kn kst ka kc kl ks kq kt)).cmd,
     AV.int IntKind.i64 (idleL (Lk.mk kn kst ka kc kl ks kq kt)).len,
     AV.ints false IntKind.u8 (idleL (Lk.mk kn kst ka kc kl ks kq kt)).s,
     AV.int IntKind.i64 (idleL (Lk.mk kn kst ka kc kl ks kq kt)).q,
     AV.int IntKind.i64 (idleL (Lk.mk kn kst ka kc kl ks kq kt)).t],
     AV.agg
     [AV.ownf (1000 : Nat),
     AV.bool (replyO (Ou.mk ps dl ms (kst == (2 : Int))) a (6 : Int) (List.take (8 : Nat) s ++ b4 a)).dl,
     AV.ints false IntKind.u8
     (replyO (Ou.mk ps dl ms (kst == (2 : Int))) a (6 : Int) (List.take (8 : Nat) s ++ b4 a)).ms,
     AV.bool (replyO (Ou.mk ps dl ms (kst == (2 : Int))) a (6 : Int) (List.take (8 : Nat) s ++ b4 a)).cn]])
     (some
     (AV.linr (38 : Nat) (0 : Nat)
     (replyO (Ou.mk ps dl ms (kst == (2 : Int))) a (6 : Int) (List.take (8 : Nat) s ++ b4 a)).ps)))))
     (chk (decide ((8 : Nat) ≤ s.length))
     (chk (decide (ps.length ≤ (100000 : Nat)))
     (post
     (AV.tup
     [AV.agg
     [AV.int IntKind.i64 kn, AV.int IntKind.i64 kst, AV.int IntKind.u32 ka, AV.int IntKind.i64 kc,
     AV.int IntKind.i64 kl, AV.ints false IntKind.u8 ks, AV.int IntKind.i64 kq, AV.int IntKind.i64 kt],
     AV.agg
     [AV.ownf (1000 : Nat),
     AV.bool (replyO (Ou.mk ps dl ms cn) a (6 : Int) (List.take (8 : Nat) s ++ b4 a)).dl,
     AV.ints false IntKind.u8 (replyO (Ou.mk ps dl ms cn) a (6 : Int) (List.take (8 : Nat) s ++ b4 a)).ms,
     AV.bool (replyO (Ou.mk ps dl ms cn) a (6 : Int) (List.take (8 : Nat) s ++ b4 a)).cn]])
     (some
     (AV.linr (38 : Nat) (0 : Nat)
     (replyO (Ou.mk ps dl ms cn) a (6 : Int) (List.take (8 : Nat) s ++ b4 a)).ps))))))) := by kernel_rfl
theorem p65_0 (kn kst ka kc kl kq kt : Int) (ks : List Int) (ps : List Rec) (ms : List Int) (dl cn : Bool) (a b c d : Int) (f : Bool) (s : List Int) (post : AV → Option AV → Prop) (hin : InRL [.agg [.int .i64 kn, .int .i64 kst, .int .u32 ka, .int .i64 kc, .int .i64 kl, .ints false .u8 ks, .int .i64 kq, .int .i64 kt], .agg [.ownf 1000, .bool dl, .ints false .u8 ms, .bool cn], .agg [.int .u32 a, .bool f, .int .i64 b, .int .i64 c, .int .i64 d, .ints false .u8 s]]) (hie : InRO (some (.linr 38 0 ps))) (h : chk (decide (ps.length ≤ 100000 ∧ 8 ≤ s.length)) (retL post (renewL ⟨kn, kst, ka, kc, kl, ks, kq, kt⟩ ⟨ps, dl, ms, cn⟩ ⟨a, b, c, d, f, s⟩))) : Ok (runF c65 pm65 Proofs.Try.f65 [.agg [.int .i64 kn, .int .i64 kst, .int .u32 ka, .int .i64 kc, .int .i64 kl, .ints false .u8 ks, .int .i64 kq, .int .i64 kt], .agg [.ownf 1000, .bool dl, .ints false .u8 ms, .bool cn], .agg [.int .u32 a, .bool f, .int .i64 b, .int .i64 c, .int .i64 d, .ints false .u8 s]] (some (.linr 38 0 ps)) (post)) := by
  refine ⟨?_⟩
  rw [t65_0]
  obtain ⟨h1, h2⟩ := chk_iff.1 h
  have hq := of_decide_eq_true h1
  clear h h1 hin hie
  repeat' first
    | with_reducible refine br_ne (fun _ => ?_) (fun _ => ?_)
    | with_reducible refine br_eq (fun _ => ?_) (fun _ => ?_)
    | with_reducible refine br_dec (fun _ => ?_) (fun _ => ?_)
    | with_reducible refine chk_dec (by omega) ?_
  all_goals first | (exfalso; omega) | dsimp only [renewL] at h2
  all_goals (repeat first | rw [if_pos (by omega)] at h2 | rw [if_neg (by omega)] at h2)
  all_goals exact h2
theorem k65 : Keeps Proofs.Try.prog 65 S65 := by
  refine ⟨?_, Proofs.Try.f65, by kernel_rfl, by kernel_rfl, by kernel_rfl⟩
  intro args e post h
  unfold S65 at h
  split at h
  · refine Spec.inR fun hin hie => fun_ok' (c := c65) gamL_ok (l := u65) a65 rfl mixed_ok (fn := Proofs.Try.f65) (show Proofs.Try.prog.funcs[65]? = some Proofs.Try.f65 by kernel_rfl) (by kernel_rfl) (ls := []) rfl (.inl rfl) trivial (pm := pm65) (by simp [c65]) (by rintro ⟨t, l, h⟩; cases h) ?_
    exact p65_0 _ _ _ _ _ _ _ _ _ _ _ _ _ _ _ _ _ _ _ hin hie h
  · exact h.elim
def pm67 : Pm := ⟨[lkS, ouP, .s, pkS], .ln 1 0 (.lr 38 0), [lkS, ouR]⟩
def u67 : List (Nat × Tr) := [(58, S58), (60, S60), (70, S70), (76, S76)]
theorem a67 : AllKeep Proofs.Try.prog u67 := ⟨k58, k60, k70, k76, trivial⟩

def c67 : Cfg := { n := 80, Γ := GamL, C := ofL u67, pm := pmL [(58, pm58), (60, pm60), (70, pm70), (76, pm76)], plan := planB67, L := lpL [], unroll := nmL [], keep := kpL [] }
def S67 : Tr
  | [.agg [.int .i64 kn, .int .i64 kst, .int .u32 ka, .int .i64 kc, .int .i64 kl, .ints false .u8 ks, .int .i64 kq, .int .i64 kt], .agg [.ownf 1000, .bool dl, .ints false .u8 ms, .bool cn], .int .i64 now, .agg [.int .u32 a, .bool f, .int .i64 b, .int .i64 c, .int .i64 d, .ints false .u8 s]], some (.linr 38 0 ps), post => chk (decide (ps.length ≤ 100000 ∧ ks.length ≤ 100000 ∧ s.length ≤ 100000 ∧ -1000000 ≤ kl ∧ kl ≤ 1000000 ∧ 0 ≤ c ∧ c ≤ 1000000)) (retL post (beginL ⟨kn, kst, ka, kc, kl, ks, kq, kt⟩ ⟨ps, dl, ms, cn⟩ now ⟨a, b, c, d, f, s⟩))
  | _, _, _ => False
theorem t67_0 (kn kst ka kc kl kq kt : Int) (ks : List Int) (ps : List Rec) (ms : List Int) (dl cn : Bool) (now : Int) (a b c d : Int) (f : Bool) (s : List Int) (post : AV → Option AV → Prop) : runF c67 pm67 Proofs.Try.f67 [.agg [.int .i64 kn, .int .i64 kst, .int .u32 ka, .int .i64 kc, .int .i64 kl, .ints false .u8 ks, .int .i64 kq, .int .i64 kt], .agg [.ownf 1000, .bool dl, .ints false .u8 ms, .bool cn], .int .i64 now, .agg [.int .u32 a, .bool f, .int .i64 b, .int .i64 c, .int .i64 d, .ints false .u8 s]] (some (.linr 38 0 ps)) post = (br (kst == (1 : Int))
     (br (ka == a)
     (chk (decide (ps.length ≤ (100000 : Nat)))
     (post
     (AV.tup
     [AV.agg
     [AV.int IntKind.i64 (idleL (Lk.mk kn kst ka kc kl ks kq kt)).n,
     AV.int IntKind.i64 (idleL (Lk.mk kn kst ka kc kl ks kq kt)).st,
     AV.int IntKind.u32 (idleL (Lk.mk kn kst ka kc kl ks kq kt)).a,
     AV.int IntKind.i64 (idleL (Lk.mk kn kst ka kc kl ks kq kt)).cmd,
     AV.int IntKind.i64 (idleL (Lk.mk kn kst ka kc kl ks kq kt)).len,
     AV.ints false IntKind.u8 (idleL (Lk.mk kn kst ka kc kl ks kq kt)).s,
     AV.int IntKind.i64 (idleL (Lk.mk kn kst ka kc kl ks kq kt)).q,
     AV.int IntKind.i64 (idleL (Lk.mk kn kst ka kc kl ks kq kt)).t],
     AV.agg
     [AV.ownf (1000 : Nat), AV.bool (refuseO (Ou.mk ps dl ms cn) a (33 : Int)).dl,
     AV.ints false IntKind.u8 (refuseO (Ou.mk ps dl ms cn) a (33 : Int)).ms,
     AV.bool (refuseO (Ou.mk ps dl ms cn) a (33 : Int)).cn]])
     (some (AV.linr (38 : Nat) (0 : Nat) (refuseO (Ou.mk ps dl ms cn) a (33 : Int)).ps))))
     (br (kst != (0 : Int))
     (chk (decide (ps.length ≤ (100000 : Nat)))
     (post
     (AV.tup
     [AV.agg
     [AV.int IntKind.i64 kn, AV.int IntKind.i64 kst, AV.int IntKind.u32 ka, AV.int IntKind.i64 kc,
     AV.int IntKind.i64 kl, AV.ints false IntKind.u8 ks, AV.int IntKind.i64 kq, AV.int IntKind.i64 kt],
     AV.agg
     [AV.ownf (1000 : Nat), AV.bool (refuseO (Ou.mk ps dl ms cn) a (32 : Int)).dl,
     AV.ints false IntKind.u8 (refuseO (Ou.mk ps dl ms cn) a (32 : Int)).ms,
     AV.bool (refuseO (Ou.mk ps dl ms cn) a (32 : Int)).cn]])
     (some (AV.linr (38 : Nat) (0 : Nat) (refuseO (Ou.mk ps dl ms cn) a (32 : Int)).ps))))
     (br (b != (1 : Int))
     (br (b != (3 : Int))
     (chk (decide (ps.length ≤ (100000 : Nat)))
     (post
     (AV.tup
     [AV.agg
     [AV.int IntKind.i64 kn, AV.int IntKind.i64 kst, AV.int IntKind.u32 ka, AV.int IntKind.i64 kc,
     AV.int IntKind.i64 kl, AV.ints false IntKind.u8 ks, AV.int IntKind.i64 kq, AV.int IntKind.i64 kt],
     AV.agg
     [AV.ownf (1000 : Nat), AV.bool (refuseO (Ou.mk ps dl ms cn) a (3 : Int)).dl,
     AV.ints false IntKind.u8 (refuseO (Ou.mk ps dl ms cn) a (3 : Int)).ms,
     AV.bool (refuseO (Ou.mk ps dl ms cn) a (3 : Int)).cn]])
     (some (AV.linr (38 : Nat) (0 : Nat) (refuseO (Ou.mk ps dl ms cn) a (3 : Int)).ps))))
     (br (decide (c > (4096 : Int)))
     (chk (decide (ps.length ≤ (100000 : Nat)))
     (post
     (AV.tup
     [AV.agg
     [AV.int IntKind.i64 kn, AV.int IntKind.i64 kst, AV.int IntKind.u32 ka, AV.int IntKind.i64 kc,
     AV.int IntKind.i64 kl, AV.ints false IntKind.u8 ks, AV.int IntKind.i64 kq,
     AV.int IntKind.i64 kt],
     AV.agg
     [AV.ownf (1000 : Nat), AV.bool (refuseO (Ou.mk ps dl ms cn) a (8 : Int)).dl,
     AV.ints false IntKind.u8 (refuseO (Ou.mk ps dl ms cn) a (8 : Int)).ms,
     AV.bool (refuseO (Ou.mk ps dl ms cn) a (8 : Int)).cn]])
     (some (AV.linr (38 : Nat) (0 : Nat) (refuseO (Ou.mk ps dl ms cn) a (8 : Int)).ps))))
     (chk
     (decide
     ((0 : Nat) ≤ (100000 : Nat) ∧ s.length ≤ (100000 : Nat) ∧ (-1000000 : Int) ≤ c ∧ c ≤ (1000000 : Int)))
     (chk (decide (ps.length ≤ (100000 : Nat)))
     (post
     (AV.tup
     [AV.agg
     [AV.int IntKind.i64
     (handleL (Lk.mk kn (1 : Int) a b c (extL [] s c) (0 : Int) now) (Ou.mk ps dl ms cn)
     now).fst.n,
     AV.int IntKind.i64
     (handleL (Lk.mk kn (1 : Int) a b c (extL [] s c) (0 : Int) now) (Ou.mk ps dl ms cn)
     now).fst.st,
     AV.int IntKind.u32
     (handleL (Lk.mk kn (1 : Int) a b c (extL [] s c) (0 : Int) now) (Ou.mk ps dl ms cn)
     now).fst.a,
     AV.int IntKind.i64
     (handleL (Lk.mk kn (1 : Int) a b c (extL [] s c) (0 : Int) now) (Ou.mk ps dl ms cn)
     now).fst.cmd,
     AV.int IntKind.i64
     (handleL (Lk.mk kn (1 : Int) a b c (extL [] s c) (0 : Int) now) (Ou.mk ps dl ms cn)
     now).fst.len,
     AV.ints false IntKind.u8
     (handleL (Lk.mk kn (1 : Int) a b c (extL [] s c) (0 : Int) now) (Ou.mk ps dl ms cn)
     now).fst.s,
     AV.int IntKind.i64
     (handleL (Lk.mk kn (1 : Int) a b c (extL [] s c) (0 : Int) now) (Ou.mk ps dl ms cn)
     now).fst.q,
     AV.int IntKind.i64
     (handleL (Lk.mk kn (1 : Int) a b c (extL [] s c) (0 : Int) now) (Ou.mk ps dl ms cn)
     now).fst.t],
     AV.agg
     [AV.ownf (1000 : Nat),
     AV.bool
     (handleL (Lk.mk kn (1 : Int) a b c (extL [] s c) (0 : Int) now) (Ou.mk ps dl ms cn)
     now).snd.dl,
     AV.ints false IntKind.u8
     (handleL (Lk.mk kn (1 : Int) a b c (extL [] s c) (0 : Int) now) (Ou.mk ps dl ms cn)
     now).snd.ms,
     AV.bool
     (handleL (Lk.mk kn (1 : Int) a b c (extL [] s c) (0 : Int) now) (Ou.mk ps dl ms cn)
     now).snd.cn]])
     (some
     (AV.linr (38 : Nat) (0 : Nat)
     (handleL (Lk.mk kn (1 : Int) a b c (extL [] s c) (0 : Int) now) (Ou.mk ps dl ms cn)
     now).snd.ps)))))))
     (br (decide (c > (4096 : Int)))
     (chk (decide (ps.length ≤ (100000 : Nat)))
     (post
     (AV.tup
     [AV.agg
     [AV.int IntKind.i64 kn, AV.int IntKind.i64 kst, AV.int IntKind.u32 ka, AV.int IntKind.i64 kc,
     AV.int IntKind.i64 kl, AV.ints false IntKind.u8 ks, AV.int IntKind.i64 kq, AV.int IntKind.i64 kt],
     AV.agg
     [AV.ownf (1000 : Nat), AV.bool (refuseO (Ou.mk ps dl ms cn) a (8 : Int)).dl,
     AV.ints false IntKind.u8 (refuseO (Ou.mk ps dl ms cn) a (8 : Int)).ms,
     AV.bool (refuseO (Ou.mk ps dl ms cn) a (8 : Int)).cn]])
     (some (AV.linr (38 : Nat) (0 : Nat) (refuseO (Ou.mk ps dl ms cn) a (8 : Int)).ps))))
     (chk
     (decide
     ((0 : Nat) ≤ (100000 : Nat) ∧ s.length ≤ (100000 : Nat) ∧ (-1000000 : Int) ≤ c ∧ c ≤ (1000000 : Int)))
     (chk (decide (ps.length ≤ (100000 : Nat)))
     (post
     (AV.tup
     [AV.agg
     [AV.int IntKind.i64
     (handleL (Lk.mk kn (1 : Int) a b c (extL [] s c) (0 : Int) now) (Ou.mk ps dl ms cn)
     now).fst.n,
     AV.int IntKind.i64
     (handleL (Lk.mk kn (1 : Int) a b c (extL [] s c) (0 : Int) now) (Ou.mk ps dl ms cn)
     now).fst.st,
     AV.int IntKind.u32
     (handleL (Lk.mk kn (1 : Int) a b c (extL [] s c) (0 : Int) now) (Ou.mk ps dl ms cn)
     now).fst.a,
     AV.int IntKind.i64
     (handleL (Lk.mk kn (1 : Int) a b c (extL [] s c) (0 : Int) now) (Ou.mk ps dl ms cn)
     now).fst.cmd,
     AV.int IntKind.i64
     (handleL (Lk.mk kn (1 : Int) a b c (extL [] s c) (0 : Int) now) (Ou.mk ps dl ms cn)
     now).fst.len,
     AV.ints false IntKind.u8
     (handleL (Lk.mk kn (1 : Int) a b c (extL [] s c) (0 : Int) now) (Ou.mk ps dl ms cn)
     now).fst.s,
     AV.int IntKind.i64
     (handleL (Lk.mk kn (1 : Int) a b c (extL [] s c) (0 : Int) now) (Ou.mk ps dl ms cn)
     now).fst.q,
     AV.int IntKind.i64
     (handleL (Lk.mk kn (1 : Int) a b c (extL [] s c) (0 : Int) now) (Ou.mk ps dl ms cn)
     now).fst.t],
     AV.agg
     [AV.ownf (1000 : Nat),
     AV.bool
     (handleL (Lk.mk kn (1 : Int) a b c (extL [] s c) (0 : Int) now) (Ou.mk ps dl ms cn)
     now).snd.dl,
     AV.ints false IntKind.u8
     (handleL (Lk.mk kn (1 : Int) a b c (extL [] s c) (0 : Int) now) (Ou.mk ps dl ms cn)
     now).snd.ms,
     AV.bool
     (handleL (Lk.mk kn (1 : Int) a b c (extL [] s c) (0 : Int) now) (Ou.mk ps dl ms cn)
     now).snd.cn]])
     (some
     (AV.linr (38 : Nat) (0 : Nat)
     (handleL (Lk.mk kn (1 : Int) a b c (extL [] s c) (0 : Int) now) (Ou.mk ps dl ms cn)
     now).snd.ps)))))))))
     (br (kst != (0 : Int))
     (chk (decide (ps.length ≤ (100000 : Nat)))
     (post
     (AV.tup
     [AV.agg
     [AV.int IntKind.i64 kn, AV.int IntKind.i64 kst, AV.int IntKind.u32 ka, AV.int IntKind.i64 kc,
     AV.int IntKind.i64 kl, AV.ints false IntKind.u8 ks, AV.int IntKind.i64 kq, AV.int IntKind.i64 kt],
     AV.agg
     [AV.ownf (1000 : Nat), AV.bool (refuseO (Ou.mk ps dl ms cn) a (32 : Int)).dl,
     AV.ints false IntKind.u8 (refuseO (Ou.mk ps dl ms cn) a (32 : Int)).ms,
     AV.bool (refuseO (Ou.mk ps dl ms cn) a (32 : Int)).cn]])
     (some (AV.linr (38 : Nat) (0 : Nat) (refuseO (Ou.mk ps dl ms cn) a (32 : Int)).ps))))
     (br (b != (1 : Int))
     (br (b != (3 : Int))
     (chk (decide (ps.length ≤ (100000 : Nat)))
     (post
     (AV.tup
     [AV.agg
     [AV.int IntKind.i64 kn, AV.int IntKind.i64 kst, AV.int IntKind.u32 ka, AV.int IntKind.i64 kc,
     AV.int IntKind.i64 kl, AV.ints false IntKind.u8 ks, AV.int IntKind.i64 kq, AV.int IntKind.i64 kt],
     AV.agg
     [AV.ownf (1000 : Nat), AV.bool (refuseO (Ou.mk ps dl ms cn) a (3 : Int)).dl,
     AV.ints false IntKind.u8 (refuseO (Ou.mk ps dl ms cn) a (3 : Int)).ms,
     AV.bool (refuseO (Ou.mk ps dl ms cn) a (3 : Int)).cn]])
     (some (AV.linr (38 : Nat) (0 : Nat) (refuseO (Ou.mk ps dl ms cn) a (3 : Int)).ps))))
     (br (decide (c > (4096 : Int)))
     (chk (decide (ps.length ≤ (100000 : Nat)))
     (post
     (AV.tup
     [AV.agg
     [AV.int IntKind.i64 kn, AV.int IntKind.i64 kst, AV.int IntKind.u32 ka, AV.int IntKind.i64 kc,
     AV.int IntKind.i64 kl, AV.ints false IntKind.u8 ks, AV.int IntKind.i64 kq, AV.int IntKind.i64 kt],
     AV.agg
     [AV.ownf (1000 : Nat), AV.bool (refuseO (Ou.mk ps dl ms cn) a (8 : Int)).dl,
     AV.ints false IntKind.u8 (refuseO (Ou.mk ps dl ms cn) a (8 : Int)).ms,
     AV.bool (refuseO (Ou.mk ps dl ms cn) a (8 : Int)).cn]])
     (some (AV.linr (38 : Nat) (0 : Nat) (refuseO (Ou.mk ps dl ms cn) a (8 : Int)).ps))))
     (chk
     (decide
     ((0 : Nat) ≤ (100000 : Nat) ∧ s.length ≤ (100000 : Nat) ∧ (-1000000 : Int) ≤ c ∧ c ≤ (1000000 : Int)))
     (chk (decide (ps.length ≤ (100000 : Nat)))
     (post
     (AV.tup
     [AV.agg
     [AV.int IntKind.i64
     (handleL (Lk.mk kn (1 : Int) a b c (extL [] s c) (0 : Int) now) (Ou.mk ps dl ms cn)
     now).fst.n,
     AV.int IntKind.i64
     (handleL (Lk.mk kn (1 : Int) a b c (extL [] s c) (0 : Int) now) (Ou.mk ps dl ms cn)
     now).fst.st,
     AV.int IntKind.u32
     (handleL (Lk.mk kn (1 : Int) a b c (extL [] s c) (0 : Int) now) (Ou.mk ps dl ms cn)
     now).fst.a,
     AV.int IntKind.i64
     (handleL (Lk.mk kn (1 : Int) a b c (extL [] s c) (0 : Int) now) (Ou.mk ps dl ms cn)
     now).fst.cmd,
     AV.int IntKind.i64
     (handleL (Lk.mk kn (1 : Int) a b c (extL [] s c) (0 : Int) now) (Ou.mk ps dl ms cn)
     now).fst.len,
     AV.ints false IntKind.u8
     (handleL (Lk.mk kn (1 : Int) a b c (extL [] s c) (0 : Int) now) (Ou.mk ps dl ms cn)
     now).fst.s,
     AV.int IntKind.i64
     (handleL (Lk.mk kn (1 : Int) a b c (extL [] s c) (0 : Int) now) (Ou.mk ps dl ms cn)
     now).fst.q,
     AV.int IntKind.i64
     (handleL (Lk.mk kn (1 : Int) a b c (extL [] s c) (0 : Int) now) (Ou.mk ps dl ms cn)
     now).fst.t],
     AV.agg
     [AV.ownf (1000 : Nat),
     AV.bool
     (handleL (Lk.mk kn (1 : Int) a b c (extL [] s c) (0 : Int) now) (Ou.mk ps dl ms cn)
     now).snd.dl,
     AV.ints false IntKind.u8
     (handleL (Lk.mk kn (1 : Int) a b c (extL [] s c) (0 : Int) now) (Ou.mk ps dl ms cn)
     now).snd.ms,
     AV.bool
     (handleL (Lk.mk kn (1 : Int) a b c (extL [] s c) (0 : Int) now) (Ou.mk ps dl ms cn)
     now).snd.cn]])
     (some
     (AV.linr (38 : Nat) (0 : Nat)
     (handleL (Lk.mk kn (1 : Int) a b c (extL [] s c) (0 : Int) now) (Ou.mk ps dl ms cn)
     now).snd.ps)))))))
     (br (decide (c > (4096 : Int)))
     (chk (decide (ps.length ≤ (100000 : Nat)))
     (post
     (AV.tup
     [AV.agg
     [AV.int IntKind.i64 kn, AV.int IntKind.i64 kst, AV.int IntKind.u32 ka, AV.int IntKind.i64 kc,
     AV.int IntKind.i64 kl, AV.ints false IntKind.u8 ks, AV.int IntKind.i64 kq, AV.int IntKind.i64 kt],
     AV.agg
     [AV.ownf (1000 : Nat), AV.bool (refuseO (Ou.mk ps dl ms cn) a (8 : Int)).dl,
     AV.ints false IntKind.u8 (refuseO (Ou.mk ps dl ms cn) a (8 : Int)).ms,
     AV.bool (refuseO (Ou.mk ps dl ms cn) a (8 : Int)).cn]])
     (some (AV.linr (38 : Nat) (0 : Nat) (refuseO (Ou.mk ps dl ms cn) a (8 : Int)).ps))))
     (chk
     (decide ((0 : Nat) ≤ (100000 : Nat) ∧ s.length ≤ (100000 : Nat) ∧ (-1000000 : Int) ≤ c ∧ c ≤ (1000000 : Int)))
     (chk (decide (ps.length ≤ (100000 : Nat)))
     (post
     (AV.tup
     [AV.agg
     [AV.int IntKind.i64
     (handleL (Lk.mk kn (1 : Int) a b c (extL [] s c) (0 : Int) now) (Ou.mk ps dl ms cn) now).fst.n,
     AV.int IntKind.i64
     (handleL (Lk.mk kn (1 : Int) a b c (extL [] s c) (0 : Int) now) (Ou.mk ps dl ms cn) now).fst.st,
     AV.int IntKind.u32
     (handleL (Lk.mk kn (1 : Int) a b c (extL [] s c) (0 : Int) now) (Ou.mk ps dl ms cn) now).fst.a,
     AV.int IntKind.i64
     (handleL (Lk.mk kn (1 : Int) a b c (extL [] s c) (0 : Int) now) (Ou.mk ps dl ms cn)
     now).fst.cmd,
     AV.int IntKind.i64
     (handleL (Lk.mk kn (1 : Int) a b c (extL [] s c) (0 : Int) now) (Ou.mk ps dl ms cn)
     now).fst.len,
     AV.ints false IntKind.u8
     (handleL (Lk.mk kn (1 : Int) a b c (extL [] s c) (0 : Int) now) (Ou.mk ps dl ms cn) now).fst.s,
     AV.int IntKind.i64
     (handleL (Lk.mk kn (1 : Int) a b c (extL [] s c) (0 : Int) now) (Ou.mk ps dl ms cn) now).fst.q,
     AV.int IntKind.i64
     (handleL (Lk.mk kn (1 : Int) a b c (extL [] s c) (0 : Int) now) (Ou.mk ps dl ms cn) now).fst.t],
     AV.agg
     [AV.ownf (1000 : Nat),
     AV.bool
     (handleL (Lk.mk kn (1 : Int) a b c (extL [] s c) (0 : Int) now) (Ou.mk ps dl ms cn) now).snd.dl,
     AV.ints false IntKind.u8
     (handleL (Lk.mk kn (1 : Int) a b c (extL [] s c) (0 : Int) now) (Ou.mk ps dl ms cn) now).snd.ms,
     AV.bool
     (handleL (Lk.mk kn (1 : Int) a b c (extL [] s c) (0 : Int) now) (Ou.mk ps dl ms cn)
     now).snd.cn]])
     (some
     (AV.linr (38 : Nat) (0 : Nat)
     (handleL (Lk.mk kn (1 : Int) a b c (extL [] s c) (0 : Int) now) (Ou.mk ps dl ms cn)
     now).snd.ps))))))))) := by kernel_rfl
theorem p67_0 (kn kst ka kc kl kq kt : Int) (ks : List Int) (ps : List Rec) (ms : List Int) (dl cn : Bool) (now : Int) (a b c d : Int) (f : Bool) (s : List Int) (post : AV → Option AV → Prop) (hin : InRL [.agg [.int .i64 kn, .int .i64 kst, .int .u32 ka, .int .i64 kc, .int .i64 kl, .ints false .u8 ks, .int .i64 kq, .int .i64 kt], .agg [.ownf 1000, .bool dl, .ints false .u8 ms, .bool cn], .int .i64 now, .agg [.int .u32 a, .bool f, .int .i64 b, .int .i64 c, .int .i64 d, .ints false .u8 s]]) (hie : InRO (some (.linr 38 0 ps))) (h : chk (decide (ps.length ≤ 100000 ∧ ks.length ≤ 100000 ∧ s.length ≤ 100000 ∧ -1000000 ≤ kl ∧ kl ≤ 1000000 ∧ 0 ≤ c ∧ c ≤ 1000000)) (retL post (beginL ⟨kn, kst, ka, kc, kl, ks, kq, kt⟩ ⟨ps, dl, ms, cn⟩ now ⟨a, b, c, d, f, s⟩))) : Ok (runF c67 pm67 Proofs.Try.f67 [.agg [.int .i64 kn, .int .i64 kst, .int .u32 ka, .int .i64 kc, .int .i64 kl, .ints false .u8 ks, .int .i64 kq, .int .i64 kt], .agg [.ownf 1000, .bool dl, .ints false .u8 ms, .bool cn], .int .i64 now, .agg [.int .u32 a, .bool f, .int .i64 b, .int .i64 c, .int .i64 d, .ints false .u8 s]] (some (.linr 38 0 ps)) (post)) := by
  refine ⟨?_⟩
  rw [t67_0]
  obtain ⟨h1, h2⟩ := chk_iff.1 h
  have hq := of_decide_eq_true h1
  clear h h1 hin hie
  repeat' first
    | with_reducible refine br_ne (fun _ => ?_) (fun _ => ?_)
    | with_reducible refine br_eq (fun _ => ?_) (fun _ => ?_)
    | with_reducible refine br_dec (fun _ => ?_) (fun _ => ?_)
    | with_reducible refine chk_dec (by omega) ?_
  all_goals first | (exfalso; omega) | dsimp only [beginL, beginH] at h2
  all_goals (repeat first | rw [if_pos (by omega)] at h2 | rw [if_neg (by omega)] at h2)
  all_goals exact h2
theorem k67 : Keeps Proofs.Try.prog 67 S67 := by
  refine ⟨?_, Proofs.Try.f67, by kernel_rfl, by kernel_rfl, by kernel_rfl⟩
  intro args e post h
  unfold S67 at h
  split at h
  · refine Spec.inR fun hin hie => fun_ok' (c := c67) gamL_ok (l := u67) a67 rfl mixed_ok (fn := Proofs.Try.f67) (show Proofs.Try.prog.funcs[67]? = some Proofs.Try.f67 by kernel_rfl) (by kernel_rfl) (ls := []) rfl (.inl rfl) trivial (pm := pm67) (by simp [c67]) (by rintro ⟨t, l, h⟩; cases h) ?_
    exact p67_0 _ _ _ _ _ _ _ _ _ _ _ _ _ _ _ _ _ _ _ _ hin hie h
  · exact h.elim
def pm68 : Pm := ⟨[lkS, .s, pkS, ouS], .no, [lkS, ouS]⟩
def u68 : List (Nat × Tr) := [(59, S59), (61, S61), (71, S71), (79, S79)]
theorem a68 : AllKeep Proofs.Try.prog u68 := ⟨k59, k61, k71, k79, trivial⟩

def c68 : Cfg := { n := 63, Γ := GamL, C := ofL u68, pm := pmL [(59, pm59), (61, pm61), (71, pm71), (79, pm79)], plan := planB68, L := lpL [], unroll := nmL [], keep := kpL [] }
def S68 : Tr
  | [.agg [.int .i64 kn, .int .i64 kst, .int .u32 ka, .int .i64 kc, .int .i64 kl, .ints false .u8 ks, .int .i64 kq, .int .i64 kt], .int .i64 now, .agg [.int .u32 a, .bool f, .int .i64 b, .int .i64 c, .int .i64 d, .ints false .u8 s], .agg [.rs false 0 ps, .bool dl, .ints false .u8 ms, .bool cn]], none, post => chk (decide (ps.length ≤ 100000 ∧ ks.length ≤ 100000 ∧ s.length ≤ 100000 ∧ -1000000 ≤ kl ∧ kl ≤ 1000000 ∧ 0 ≤ c ∧ c ≤ 1000000 ∧ f = false)) (retR post (nextL ⟨kn, kst, ka, kc, kl, ks, kq, kt⟩ ⟨ps, dl, ms, cn⟩ now ⟨a, b, c, d, f, s⟩))
  | _, _, _ => False
theorem t68_0 (kn kst ka kc kl kq kt : Int) (ks : List Int) (ps : List Rec) (ms : List Int) (dl cn : Bool) (now : Int) (a b c d : Int) (f : Bool) (s : List Int) (post : AV → Option AV → Prop) : runF c68 pm68 Proofs.Try.f68 [.agg [.int .i64 kn, .int .i64 kst, .int .u32 ka, .int .i64 kc, .int .i64 kl, .ints false .u8 ks, .int .i64 kq, .int .i64 kt], .int .i64 now, .agg [.int .u32 a, .bool f, .int .i64 b, .int .i64 c, .int .i64 d, .ints false .u8 s], .agg [.rs false 0 ps, .bool dl, .ints false .u8 ms, .bool cn]] none post = (br (kst != (1 : Int))
     (post
     (AV.tup
     [AV.agg
     [AV.int IntKind.i64 kn, AV.int IntKind.i64 kst, AV.int IntKind.u32 ka, AV.int IntKind.i64 kc,
     AV.int IntKind.i64 kl, AV.ints false IntKind.u8 ks, AV.int IntKind.i64 kq, AV.int IntKind.i64 kt],
     AV.agg [AV.rs false (0 : Nat) ps, AV.bool dl, AV.ints false IntKind.u8 ms, AV.bool cn]])
     none)
     (br (ka != a)
     (post
     (AV.tup
     [AV.agg
     [AV.int IntKind.i64 kn, AV.int IntKind.i64 kst, AV.int IntKind.u32 ka, AV.int IntKind.i64 kc,
     AV.int IntKind.i64 kl, AV.ints false IntKind.u8 ks, AV.int IntKind.i64 kq, AV.int IntKind.i64 kt],
     AV.agg [AV.rs false (0 : Nat) ps, AV.bool dl, AV.ints false IntKind.u8 ms, AV.bool cn]])
     none)
     (br (d != kq)
     (chk (decide (ps.length ≤ (100000 : Nat)))
     (post
     (AV.tup
     [AV.agg
     [AV.int IntKind.i64 (idleL (Lk.mk kn kst ka kc kl ks kq kt)).n,
     AV.int IntKind.i64 (idleL (Lk.mk kn kst ka kc kl ks kq kt)).st,
     AV.int IntKind.u32 (idleL (Lk.mk kn kst ka kc kl ks kq kt)).a,
     AV.int IntKind.i64 (idleL (Lk.mk kn kst ka kc kl ks kq kt)).cmd,
     AV.int IntKind.i64 (idleL (Lk.mk kn kst ka kc kl ks kq kt)).len,
     AV.ints false IntKind.u8 (idleL (Lk.mk kn kst ka kc kl ks kq kt)).s,
     AV.int IntKind.i64 (idleL (Lk.mk kn kst ka kc kl ks kq kt)).q,
     AV.int IntKind.i64 (idleL (Lk.mk kn kst ka kc kl ks kq kt)).t],
     AV.agg
     [AV.rs false (0 : Nat) (refuseO (Ou.mk ps dl ms cn) ka (33 : Int)).ps,
     AV.bool (refuseO (Ou.mk ps dl ms cn) ka (33 : Int)).dl,
     AV.ints false IntKind.u8 (refuseO (Ou.mk ps dl ms cn) ka (33 : Int)).ms,
     AV.bool (refuseO (Ou.mk ps dl ms cn) ka (33 : Int)).cn]])
     none))
     (chk (decide (ks.length ≤ (1099511627776 : Nat)))
     (chk (decide (s.length ≤ (100000 : Nat)))
     (chk
     (cutB (padR (Rec.mk a b c d f s)).6.length none
     (some (imin (imax (IntKind.i64.wrap (kl - @Nat.cast Int _ ks.length)) (0 : Int)) (59 : Int))))
     (chk
     (decide
     (ks.length +
     (List.take (imin (imax (IntKind.i64.wrap (kl - @Nat.cast Int _ ks.length)) (0 : Int)) (59 : Int)).toNat
     (padR (Rec.mk a b c d f s)).6).length ≤
     (1099511627776 : Nat)))
     (chk (decide (ps.length ≤ (100000 : Nat)))
     (post
     (AV.tup
     [AV.agg
     [AV.int IntKind.i64
     (handleR
     (Lk.mk kn kst ka kc kl
     (ks ++
     List.take
     (imin (imax (IntKind.i64.wrap (kl - @Nat.cast Int _ ks.length)) (0 : Int))
     (59 : Int)).toNat
     (padR (Rec.mk a b c d f s)).6)
     (IntKind.i64.wrap (d + (1 : Int))) now)
     (Ou.mk ps dl ms cn) now).fst.n,
     AV.int IntKind.i64
     (handleR
     (Lk.mk kn kst ka kc kl
     (ks ++
     List.take
     (imin (imax (IntKind.i64.wrap (kl - @Nat.cast Int _ ks.length)) (0 : Int))
     (59 : Int)).toNat
     (padR (Rec.mk a b c d f s)).6)
     (IntKind.i64.wrap (d + (1 : Int))) now)
     (Ou.mk ps dl ms cn) now).fst.st,
     AV.int IntKind.u32
     (handleR
     (Lk.mk kn kst ka kc kl
     (ks ++
     List.take
     (imin (imax (IntKind.i64.wrap (kl - @Nat.cast Int _ ks.length)) (0 : Int))
     (59 : Int)).toNat
     (padR (Rec.mk a b c d f s)).6)
     (IntKind.i64.wrap (d + (1 : Int))) now)
     (Ou.mk ps dl ms cn) now).fst.a,
     AV.int IntKind.i64
     (handleR
     (Lk.mk kn kst ka kc kl
     (ks ++
     List.take
     (imin (imax (IntKind.i64.wrap (kl - @Nat.cast Int _ ks.length)) (0 : Int))
     (59 : Int)).toNat
     (padR (Rec.mk a b c d f s)).6)
     (IntKind.i64.wrap (d + (1 : Int))) now)
     (Ou.mk ps dl ms cn) now).fst.cmd,
     AV.int IntKind.i64
     (handleR
     (Lk.mk kn kst ka kc kl
     (ks ++
     List.take
     (imin (imax (IntKind.i64.wrap (kl - @Nat.cast Int _ ks.length)) (0 : Int))
     (59 : Int)).toNat
     (padR (Rec.mk a b c d f s)).6)
     (IntKind.i64.wrap (d + (1 : Int))) now)
     (Ou.mk ps dl ms cn) now).fst.len,
     AV.ints false IntKind.u8
     (handleR
     (Lk.mk kn kst ka kc kl
     (ks ++
     List.take
     (imin (imax (IntKind.i64.wrap (kl - @Nat.cast Int _ ks.length)) (0 : Int))
     (59 : Int)).toNat
     (padR (Rec.mk a b c d f s)).6)
     (IntKind.i64.wrap (d + (1 : Int))) now)
     (Ou.mk ps dl ms cn) now).fst.s,
     AV.int IntKind.i64
     (handleR
     (Lk.mk kn kst ka kc kl
     (ks ++
     List.take
     (imin (imax (IntKind.i64.wrap (kl - @Nat.cast Int _ ks.length)) (0 : Int))
     (59 : Int)).toNat
     (padR (Rec.mk a b c d f s)).6)
     (IntKind.i64.wrap (d + (1 : Int))) now)
     (Ou.mk ps dl ms cn) now).fst.q,
     AV.int IntKind.i64
     (handleR
     (Lk.mk kn kst ka kc kl
     (ks ++
     List.take
     (imin (imax (IntKind.i64.wrap (kl - @Nat.cast Int _ ks.length)) (0 : Int))
     (59 : Int)).toNat
     (padR (Rec.mk a b c d f s)).6)
     (IntKind.i64.wrap (d + (1 : Int))) now)
     (Ou.mk ps dl ms cn) now).fst.t],
     AV.agg
     [AV.rs false (0 : Nat)
     (handleR
     (Lk.mk kn kst ka kc kl
     (ks ++
     List.take
     (imin (imax (IntKind.i64.wrap (kl - @Nat.cast Int _ ks.length)) (0 : Int))
     (59 : Int)).toNat
     (padR (Rec.mk a b c d f s)).6)
     (IntKind.i64.wrap (d + (1 : Int))) now)
     (Ou.mk ps dl ms cn) now).snd.ps,
     AV.bool
     (handleR
     (Lk.mk kn kst ka kc kl
     (ks ++
     List.take
     (imin (imax (IntKind.i64.wrap (kl - @Nat.cast Int _ ks.length)) (0 : Int))
     (59 : Int)).toNat
     (padR (Rec.mk a b c d f s)).6)
     (IntKind.i64.wrap (d + (1 : Int))) now)
     (Ou.mk ps dl ms cn) now).snd.dl,
     AV.ints false IntKind.u8
     (handleR
     (Lk.mk kn kst ka kc kl
     (ks ++
     List.take
     (imin (imax (IntKind.i64.wrap (kl - @Nat.cast Int _ ks.length)) (0 : Int))
     (59 : Int)).toNat
     (padR (Rec.mk a b c d f s)).6)
     (IntKind.i64.wrap (d + (1 : Int))) now)
     (Ou.mk ps dl ms cn) now).snd.ms,
     AV.bool
     (handleR
     (Lk.mk kn kst ka kc kl
     (ks ++
     List.take
     (imin (imax (IntKind.i64.wrap (kl - @Nat.cast Int _ ks.length)) (0 : Int))
     (59 : Int)).toNat
     (padR (Rec.mk a b c d f s)).6)
     (IntKind.i64.wrap (d + (1 : Int))) now)
     (Ou.mk ps dl ms cn) now).snd.cn]])
     none))))))))) := by kernel_rfl
theorem p68_0 (kn kst ka kc kl kq kt : Int) (ks : List Int) (ps : List Rec) (ms : List Int) (dl cn : Bool) (now : Int) (a b c d : Int) (f : Bool) (s : List Int) (post : AV → Option AV → Prop) (hin : InRL [.agg [.int .i64 kn, .int .i64 kst, .int .u32 ka, .int .i64 kc, .int .i64 kl, .ints false .u8 ks, .int .i64 kq, .int .i64 kt], .int .i64 now, .agg [.int .u32 a, .bool f, .int .i64 b, .int .i64 c, .int .i64 d, .ints false .u8 s], .agg [.rs false 0 ps, .bool dl, .ints false .u8 ms, .bool cn]]) (hie : InRO none) (h : chk (decide (ps.length ≤ 100000 ∧ ks.length ≤ 100000 ∧ s.length ≤ 100000 ∧ -1000000 ≤ kl ∧ kl ≤ 1000000 ∧ 0 ≤ c ∧ c ≤ 1000000 ∧ f = false)) (retR post (nextL ⟨kn, kst, ka, kc, kl, ks, kq, kt⟩ ⟨ps, dl, ms, cn⟩ now ⟨a, b, c, d, f, s⟩))) : Ok (runF c68 pm68 Proofs.Try.f68 [.agg [.int .i64 kn, .int .i64 kst, .int .u32 ka, .int .i64 kc, .int .i64 kl, .ints false .u8 ks, .int .i64 kq, .int .i64 kt], .int .i64 now, .agg [.int .u32 a, .bool f, .int .i64 b, .int .i64 c, .int .i64 d, .ints false .u8 s], .agg [.rs false 0 ps, .bool dl, .ints false .u8 ms, .bool cn]] none (post)) := by
  refine ⟨?_⟩
  rw [t68_0]
  obtain ⟨h1, h2⟩ := chk_iff.1 h
  have hq := of_decide_eq_true h1
  clear h h1 hin hie
  have hp := pad_rng ⟨a, b, c, d, f, s⟩
  have hp3 := hp.2.2 hq.2.2.2.2.2.2.2
  dsimp only at hp
  have hm := imin_rng (imax (IntKind.i64.wrap (kl - ks.length)) 0) 59 (by unfold imax; split <;> omega) (by omega)
  repeat' first
    | with_reducible refine br_ne (fun _ => ?_) (fun _ => ?_)
    | with_reducible refine br_eq (fun _ => ?_) (fun _ => ?_)
    | with_reducible refine br_dec (fun _ => ?_) (fun _ => ?_)
    | with_reducible refine chk_dec (by omega) ?_
    | with_reducible refine chk_of (cut_hi (by omega) (by omega)) ?_
    | with_reducible refine chk_dec (by rw [List.length_take]; omega) ?_
  all_goals first | (exfalso; omega) | dsimp only [nextL] at h2
  all_goals (repeat first | rw [if_pos (by omega)] at h2 | rw [if_neg (by omega)] at h2)
  all_goals exact h2
theorem k68 : Keeps Proofs.Try.prog 68 S68 := by
  refine ⟨?_, Proofs.Try.f68, by kernel_rfl, by kernel_rfl, by kernel_rfl⟩
  intro args e post h
  unfold S68 at h
  split at h
  · refine Spec.inR fun hin hie => fun_ok' (c := c68) gamL_ok (l := u68) a68 rfl mixed_ok (fn := Proofs.Try.f68) (show Proofs.Try.prog.funcs[68]? = some Proofs.Try.f68 by kernel_rfl) (by kernel_rfl) (ls := []) rfl (.inl rfl) trivial (pm := pm68) (by simp [c68]) (by rintro ⟨t, l, h⟩; cases h) ?_
    exact p68_0 _ _ _ _ _ _ _ _ _ _ _ _ _ _ _ _ _ _ _ _ hin hie h
  · exact h.elim
def pm69 : Pm := ⟨[lkS, .s, pkS, ouS], .no, [lkS, ouS]⟩
def u69 : List (Nat × Tr) := [(59, S59), (61, S61), (71, S71), (75, S75), (79, S79), (80, S80)]
theorem a69 : AllKeep Proofs.Try.prog u69 := ⟨k59, k61, k71, k75, k79, k80, trivial⟩

def c69 : Cfg := { n := 186, Γ := GamL, C := ofL u69, pm := pmL [(59, pm59), (61, pm61), (71, pm71), (75, pm75), (79, pm79), (80, pm80)], plan := planB69, L := lpL [], unroll := nmL [], keep := kpL [] }
def S69 : Tr
  | [.agg [.int .i64 kn, .int .i64 kst, .int .u32 ka, .int .i64 kc, .int .i64 kl, .ints false .u8 ks, .int .i64 kq, .int .i64 kt], .int .i64 now, .agg [.int .u32 a, .bool f, .int .i64 b, .int .i64 c, .int .i64 d, .ints false .u8 s], .agg [.rs false 0 ps, .bool dl, .ints false .u8 ms, .bool cn]], none, post => chk (decide (ps.length ≤ 100000 ∧ ks.length ≤ 100000 ∧ s.length ≤ 100000 ∧ -1000000 ≤ kl ∧ kl ≤ 1000000 ∧ 0 ≤ c ∧ c ≤ 1000000)) (retR post (firstL ⟨kn, kst, ka, kc, kl, ks, kq, kt⟩ ⟨ps, dl, ms, cn⟩ now ⟨a, b, c, d, f, s⟩))
  | _, _, _ => False
theorem t69_0 (kn kst ka kc kl kq kt : Int) (ks : List Int) (ps : List Rec) (ms : List Int) (dl cn : Bool) (now : Int) (a b c d : Int) (f : Bool) (s : List Int) (post : AV → Option AV → Prop) : runF c69 pm69 Proofs.Try.f69 [.agg [.int .i64 kn, .int .i64 kst, .int .u32 ka, .int .i64 kc, .int .i64 kl, .ints false .u8 ks, .int .i64 kq, .int .i64 kt], .int .i64 now, .agg [.int .u32 a, .bool f, .int .i64 b, .int .i64 c, .int .i64 d, .ints false .u8 s], .agg [.rs false 0 ps, .bool dl, .ints false .u8 ms, .bool cn]] none post = (br (kst != (0 : Int))
     (chk (decide (s.length ≤ (100000 : Nat)))
     (br (a == (4294967295 : Int))
     (br (b != (6 : Int))
     (chk (decide (ps.length ≤ (100000 : Nat)))
     (post
     (AV.tup
     [AV.agg
     [AV.int IntKind.i64 kn, AV.int IntKind.i64 kst, AV.int IntKind.u32 ka, AV.int IntKind.i64 kc,
     AV.int IntKind.i64 kl, AV.ints false IntKind.u8 ks, AV.int IntKind.i64 kq, AV.int IntKind.i64 kt],
     AV.agg
     [AV.rs false (0 : Nat) (refuseO (Ou.mk ps dl ms cn) a (3 : Int)).ps,
     AV.bool (refuseO (Ou.mk ps dl ms cn) a (3 : Int)).dl,
     AV.ints false IntKind.u8 (refuseO (Ou.mk ps dl ms cn) a (3 : Int)).ms,
     AV.bool (refuseO (Ou.mk ps dl ms cn) a (3 : Int)).cn]])
     none))
     (br (c != (8 : Int))
     (chk (decide (ps.length ≤ (100000 : Nat)))
     (post
     (AV.tup
     [AV.agg
     [AV.int IntKind.i64 kn, AV.int IntKind.i64 kst, AV.int IntKind.u32 ka, AV.int IntKind.i64 kc,
     AV.int IntKind.i64 kl, AV.ints false IntKind.u8 ks, AV.int IntKind.i64 kq, AV.int IntKind.i64 kt],
     AV.agg
     [AV.rs false (0 : Nat) (refuseO (Ou.mk ps dl ms cn) a (2 : Int)).ps,
     AV.bool (refuseO (Ou.mk ps dl ms cn) a (2 : Int)).dl,
     AV.ints false IntKind.u8 (refuseO (Ou.mk ps dl ms cn) a (2 : Int)).ms,
     AV.bool (refuseO (Ou.mk ps dl ms cn) a (2 : Int)).cn]])
     none))
     (br (decide (kn ≥ (32 : Int)))
     (chk (decide (ps.length ≤ (100000 : Nat)))
     (post
     (AV.tup
     [AV.agg
     [AV.int IntKind.i64 kn, AV.int IntKind.i64 kst, AV.int IntKind.u32 ka, AV.int IntKind.i64 kc,
     AV.int IntKind.i64 kl, AV.ints false IntKind.u8 ks, AV.int IntKind.i64 kq,
     AV.int IntKind.i64 kt],
     AV.agg
     [AV.rs false (0 : Nat) (refuseO (Ou.mk ps dl ms cn) a (12 : Int)).ps,
     AV.bool (refuseO (Ou.mk ps dl ms cn) a (12 : Int)).dl,
     AV.ints false IntKind.u8 (refuseO (Ou.mk ps dl ms cn) a (12 : Int)).ms,
     AV.bool (refuseO (Ou.mk ps dl ms cn) a (12 : Int)).cn]])
     none))
     (chk (true && decide ((8 : Int) ≤ @Nat.cast Int _ (padR (Rec.mk a b c d f s)).6.length))
     (chk
     (decide ((0 : Nat) < (b4 (IntKind.u32.wrap (IntKind.i64.wrap (kn + (1 : Int))))).length) &&
     decide
     ((List.take (8 : Nat) (padR (Rec.mk a b c d f s)).6).length +
     (b4 (IntKind.u32.wrap (IntKind.i64.wrap (kn + (1 : Int))))).length ≤
     (1099511627776 : Nat)))
     (chk (decide (ps.length ≤ (100000 : Nat)))
     (post
     (AV.tup
     [AV.agg
     [AV.int IntKind.i64 (IntKind.i64.wrap (kn + (1 : Int))), AV.int IntKind.i64 kst,
     AV.int IntKind.u32 ka, AV.int IntKind.i64 kc, AV.int IntKind.i64 kl,
     AV.ints false IntKind.u8 ks, AV.int IntKind.i64 kq, AV.int IntKind.i64 kt],
     AV.agg
     [AV.rs false (0 : Nat)
     (replyO (Ou.mk ps dl ms cn) a (6 : Int)
     (List.take (8 : Nat) (padR (Rec.mk a b c d f s)).6 ++
     b4 (IntKind.u32.wrap (IntKind.i64.wrap (kn + (1 : Int)))))).ps,
     AV.bool
     (replyO (Ou.mk ps dl ms cn) a (6 : Int)
     (List.take (8 : Nat) (padR (Rec.mk a b c d f s)).6 ++
     b4 (IntKind.u32.wrap (IntKind.i64.wrap (kn + (1 : Int)))))).dl,
     AV.ints false IntKind.u8
     (replyO (Ou.mk ps dl ms cn) a (6 : Int)
     (List.take (8 : Nat) (padR (Rec.mk a b c d f s)).6 ++
     b4 (IntKind.u32.wrap (IntKind.i64.wrap (kn + (1 : Int)))))).ms,
     AV.bool
     (replyO (Ou.mk ps dl ms cn) a (6 : Int)
     (List.take (8 : Nat) (padR (Rec.mk a b c d f s)).6 ++
     b4 (IntKind.u32.wrap (IntKind.i64.wrap (kn + (1 : Int)))))).cn]])
     none)))))))
     (br (a == (0 : Int))
     (chk (decide (ps.length ≤ (100000 : Nat)))
     (post
     (AV.tup
     [AV.agg
     [AV.int IntKind.i64 kn, AV.int IntKind.i64 kst, AV.int IntKind.u32 ka, AV.int IntKind.i64 kc,
     AV.int IntKind.i64 kl, AV.ints false IntKind.u8 ks, AV.int IntKind.i64 kq, AV.int IntKind.i64 kt],
     AV.agg
     [AV.rs false (0 : Nat) (refuseO (Ou.mk ps dl ms cn) a (11 : Int)).ps,
     AV.bool (refuseO (Ou.mk ps dl ms cn) a (11 : Int)).dl,
     AV.ints false IntKind.u8 (refuseO (Ou.mk ps dl ms cn) a (11 : Int)).ms,
     AV.bool (refuseO (Ou.mk ps dl ms cn) a (11 : Int)).cn]])
     none))
     (br (decide (a > IntKind.u32.wrap kn))
     (chk (decide (ps.length ≤ (100000 : Nat)))
     (post
     (AV.tup
     [AV.agg
     [AV.int IntKind.i64 kn, AV.int IntKind.i64 kst, AV.int IntKind.u32 ka, AV.int IntKind.i64 kc,
     AV.int IntKind.i64 kl, AV.ints false IntKind.u8 ks, AV.int IntKind.i64 kq, AV.int IntKind.i64 kt],
     AV.agg
     [AV.rs false (0 : Nat) (refuseO (Ou.mk ps dl ms cn) a (11 : Int)).ps,
     AV.bool (refuseO (Ou.mk ps dl ms cn) a (11 : Int)).dl,
     AV.ints false IntKind.u8 (refuseO (Ou.mk ps dl ms cn) a (11 : Int)).ms,
     AV.bool (refuseO (Ou.mk ps dl ms cn) a (11 : Int)).cn]])
     none))
     (br (b == (6 : Int))
     (br (c != (8 : Int))
     (chk (decide (ps.length ≤ (100000 : Nat)))
     (post
     (AV.tup
     [AV.agg
     [AV.int IntKind.i64 kn, AV.int IntKind.i64 kst, AV.int IntKind.u32 ka, AV.int IntKind.i64 kc,
     AV.int IntKind.i64 kl, AV.ints false IntKind.u8 ks, AV.int IntKind.i64 kq,
     AV.int IntKind.i64 kt],
     AV.agg
     [AV.rs false (0 : Nat) (refuseO (Ou.mk ps dl ms cn) a (2 : Int)).ps,
     AV.bool (refuseO (Ou.mk ps dl ms cn) a (2 : Int)).dl,
     AV.ints false IntKind.u8 (refuseO (Ou.mk ps dl ms cn) a (2 : Int)).ms,
     AV.bool (refuseO (Ou.mk ps dl ms cn) a (2 : Int)).cn]])
     none))
     (br (ka == a)
     (chk (true && decide ((8 : Int) ≤ @Nat.cast Int _ (padR (Rec.mk a b c d f s)).6.length))
     (chk
     (decide ((0 : Nat) < (b4 a).length) &&
     decide
     ((List.take (8 : Nat) (padR (Rec.mk a b c d f s)).6).length + (b4 a).length ≤
     (1099511627776 : Nat)))
     (chk (decide (ps.length ≤ (100000 : Nat)))
     (post
     (AV.tup
     [AV.agg
     [AV.int IntKind.i64 (idleL (Lk.mk kn kst ka kc kl ks kq kt)).n,
     AV.int IntKind.i64 (idleL (Lk.mk kn kst ka kc kl ks kq kt)).st,
     AV.int IntKind.u32 (idleL (Lk.mk kn kst ka kc kl ks kq kt)).a,
     AV.int IntKind.i64 (idleL (Lk.mk kn kst ka kc kl ks kq kt)).cmd,
     AV.int IntKind.i64 (idleL (Lk.mk kn kst ka kc kl ks kq kt)).len,
     AV.ints false IntKind.u8 (idleL (Lk.mk kn kst ka kc kl ks kq kt)).s,
     AV.int IntKind.i64 (idleL (Lk.mk kn kst ka kc kl ks kq kt)).q,
     AV.int IntKind.i64 (idleL (Lk.mk kn kst ka kc kl ks kq kt)).t],
     AV.agg
     [AV.rs false (0 : Nat)
     (replyO (Ou.mk ps dl ms (kst == (2 : Int))) a (6 : Int)
     (List.take (8 : Nat) (padR (Rec.mk a b c d f s)).6 ++ b4 a)).ps,
     AV.bool
     (replyO (Ou.mk ps dl ms (kst == (2 : Int))) a (6 : Int)
     (List.take (8 : Nat) (padR (Rec.mk a b c d f s)).6 ++ b4 a)).dl,
     AV.ints false IntKind.u8
     (replyO (Ou.mk ps dl ms (kst == (2 : Int))) a (6 : Int)
     (List.take (8 : Nat) (padR (Rec.mk a b c d f s)).6 ++ b4 a)).ms,
     AV.bool
     (replyO (Ou.mk ps dl ms (kst == (2 : Int))) a (6 : Int)
     (List.take (8 : Nat) (padR (Rec.mk a b c d f s)).6 ++ b4 a)).cn]])
     none))))
     (chk (true && decide ((8 : Int) ≤ @Nat.cast Int _ (padR (Rec.mk a b c d f s)).6.length))
     (chk
     (decide ((0 : Nat) < (b4 a).length) &&
     decide
     ((List.take (8 : Nat) (padR (Rec.mk a b c d f s)).6).length + (b4 a).length ≤
     (1099511627776 : Nat)))
     (chk (decide (ps.length ≤ (100000 : Nat)))
     (post
     (AV.tup
     [AV.agg
     [AV.int IntKind.i64 kn, AV.int IntKind.i64 kst, AV.int IntKind.u32 ka,
     AV.int IntKind.i64 kc, AV.int IntKind.i64 kl, AV.ints false IntKind.u8 ks,
     AV.int IntKind.i64 kq, AV.int IntKind.i64 kt],
     AV.agg
     [AV.rs false (0 : Nat)
     (replyO (Ou.mk ps dl ms cn) a (6 : Int)
     (List.take (8 : Nat) (padR (Rec.mk a b c d f s)).6 ++ b4 a)).ps,
     AV.bool
     (replyO (Ou.mk ps dl ms cn) a (6 : Int)
     (List.take (8 : Nat) (padR (Rec.mk a b c d f s)).6 ++ b4 a)).dl,
     AV.ints false IntKind.u8
     (replyO (Ou.mk ps dl ms cn) a (6 : Int)
     (List.take (8 : Nat) (padR (Rec.mk a b c d f s)).6 ++ b4 a)).ms,
     AV.bool
     (replyO (Ou.mk ps dl ms cn) a (6 : Int)
     (List.take (8 : Nat) (padR (Rec.mk a b c d f s)).6 ++ b4 a)).cn]])
     none))))))
     (br (b == (17 : Int))
     (br (ka == a)
     (br (kst == (1 : Int))
     (post
     (AV.tup
     [AV.agg
     [AV.int IntKind.i64 (idleL (Lk.mk kn kst ka kc kl ks kq kt)).n,
     AV.int IntKind.i64 (idleL (Lk.mk kn kst ka kc kl ks kq kt)).st,
     AV.int IntKind.u32 (idleL (Lk.mk kn kst ka kc kl ks kq kt)).a,
     AV.int IntKind.i64 (idleL (Lk.mk kn kst ka kc kl ks kq kt)).cmd,
     AV.int IntKind.i64 (idleL (Lk.mk kn kst ka kc kl ks kq kt)).len,
     AV.ints false IntKind.u8 (idleL (Lk.mk kn kst ka kc kl ks kq kt)).s,
     AV.int IntKind.i64 (idleL (Lk.mk kn kst ka kc kl ks kq kt)).q,
     AV.int IntKind.i64 (idleL (Lk.mk kn kst ka kc kl ks kq kt)).t],
     AV.agg [AV.rs false (0 : Nat) ps, AV.bool dl, AV.ints false IntKind.u8 ms, AV.bool cn]])
     none)
     (post
     (AV.tup
     [AV.agg
     [AV.int IntKind.i64 kn, AV.int IntKind.i64 kst, AV.int IntKind.u32 ka, AV.int IntKind.i64 kc,
     AV.int IntKind.i64 kl, AV.ints false IntKind.u8 ks, AV.int IntKind.i64 kq,
     AV.int IntKind.i64 kt],
     AV.agg [AV.rs false (0 : Nat) ps, AV.bool dl, AV.ints false IntKind.u8 ms, AV.bool (ka == a)]])
     none))
     (post
     (AV.tup
     [AV.agg
     [AV.int IntKind.i64 kn, AV.int IntKind.i64 kst, AV.int IntKind.u32 ka, AV.int IntKind.i64 kc,
     AV.int IntKind.i64 kl, AV.ints false IntKind.u8 ks, AV.int IntKind.i64 kq,
     AV.int IntKind.i64 kt],
     AV.agg [AV.rs false (0 : Nat) ps, AV.bool dl, AV.ints false IntKind.u8 ms, AV.bool (ka == a)]])
     none))
     (br (ka == a)
     (br (kst == (1 : Int))
     (chk (decide (ps.length ≤ (100000 : Nat)))
     (post
     (AV.tup
     [AV.agg
     [AV.int IntKind.i64 (idleL (Lk.mk kn kst ka kc kl ks kq kt)).n,
     AV.int IntKind.i64 (idleL (Lk.mk kn kst ka kc kl ks kq kt)).st,
     AV.int IntKind.u32 (idleL (Lk.mk kn kst ka kc kl ks kq kt)).a,
     AV.int IntKind.i64 (idleL (Lk.mk kn kst ka kc kl ks kq kt)).cmd,
     AV.int IntKind.i64 (idleL (Lk.mk kn kst ka kc kl ks kq kt)).len,
     AV.ints false IntKind.u8 (idleL (Lk.mk kn kst ka kc kl ks kq kt)).s,
     AV.int IntKind.i64 (idleL (Lk.mk kn kst ka kc kl ks kq kt)).q,
     AV.int IntKind.i64 (idleL (Lk.mk kn kst ka kc kl ks kq kt)).t],
     AV.agg
     [AV.rs false (0 : Nat) (refuseO (Ou.mk ps dl ms cn) a (33 : Int)).ps,
     AV.bool (refuseO (Ou.mk ps dl ms cn) a (33 : Int)).dl,
     AV.ints false IntKind.u8 (refuseO (Ou.mk ps dl ms cn) a (33 : Int)).ms,
     AV.bool (refuseO (Ou.mk ps dl ms cn) a (33 : Int)).cn]])
     none))
     (br (kst != (0 : Int))
     (chk (decide (ps.length ≤ (100000 : Nat)))
     (post
     (AV.tup
     [AV.agg
     [AV.int IntKind.i64 kn, AV.int IntKind.i64 kst, AV.int IntKind.u32 ka,
     AV.int IntKind.i64 kc, AV.int IntKind.i64 kl, AV.ints false IntKind.u8 ks,
     AV.int IntKind.i64 kq, AV.int IntKind.i64 kt],
     AV.agg
     [AV.rs false (0 : Nat) (refuseO (Ou.mk ps dl ms cn) a (32 : Int)).ps,
     AV.bool (refuseO (Ou.mk ps dl ms cn) a (32 : Int)).dl,
     AV.ints false IntKind.u8 (refuseO (Ou.mk ps dl ms cn) a (32 : Int)).ms,
     AV.bool (refuseO (Ou.mk ps dl ms cn) a (32 : Int)).cn]])
     none))
     (br (b != (1 : Int))
     (br (b != (3 : Int))
     (chk (decide (ps.length ≤ (100000 : Nat)))
     (post
     (AV.tup
     [AV.agg
     [AV.int IntKind.i64 kn, AV.int IntKind.i64 kst, AV.int IntKind.u32 ka,
     AV.int IntKind.i64 kc, AV.int IntKind.i64 kl, AV.ints false IntKind.u8 ks,
     AV.int IntKind.i64 kq, AV.int IntKind.i64 kt],
     AV.agg
     [AV.rs false (0 : Nat) (refuseO (Ou.mk ps dl ms cn) a (3 : Int)).ps,
     AV.bool (refuseO (Ou.mk ps dl ms cn) a (3 : Int)).dl,
     AV.ints false IntKind.u8 (refuseO (Ou.mk ps dl ms cn) a (3 : Int)).ms,
     AV.bool (refuseO (Ou.mk ps dl ms cn) a (3 : Int)).cn]])
     none))
     (br (decide (c > (4096 : Int)))
     (chk (decide (ps.length ≤ (100000 : Nat)))
     (post
     (AV.tup
     [AV.agg
     [AV.int IntKind.i64 kn, AV.int IntKind.i64 kst, AV.int IntKind.u32 ka,
     AV.int IntKind.i64 kc, AV.int IntKind.i64 kl, AV.ints false IntKind.u8 ks,
     AV.int IntKind.i64 kq, AV.int IntKind.i64 kt],
     AV.agg
     [AV.rs false (0 : Nat) (refuseO (Ou.mk ps dl ms cn) a (8 : Int)).ps,
     AV.bool (refuseO (Ou.mk ps dl ms cn) a (8 : Int)).dl,
     AV.ints false IntKind.u8 (refuseO (Ou.mk ps dl ms cn) a (8 : Int)).ms,
     AV.bool (refuseO (Ou.mk ps dl ms cn) a (8 : Int)).cn]])
     none))
     (chk (cutB (padR (Rec.mk a b c d f s)).6.length none (some (imin c (57 : Int))))
     (chk (decide (ps.length ≤ (100000 : Nat)))
     (post
     (AV.tup
     [AV.agg
     [AV.int IntKind.i64
     (handleR
     (Lk.mk kn (1 : Int) a b c
     (List.take (imin c (57 : Int)).toNat (padR (Rec.mk a b c d f s)).6)
     (0 : Int) now)
     (Ou.mk ps dl ms cn) now).fst.n,
     AV.int IntKind.i64
     (handleR
     (Lk.mk kn (1 : Int) a b c
     (List.take (imin c (57 : Int)).toNat (padR (Rec.mk a b c d f s)).6)
     (0 : Int) now)
     (Ou.mk ps dl ms cn) now).fst.st,
     AV.int IntKind.u32
     (handleR
     (Lk.mk kn (1 : Int) a b c
     (List.take (imin c (57 : Int)).toNat (padR (Rec.mk a b c d f s)).6)
     (0 : Int) now)
     (Ou.mk ps dl ms cn) now).fst.a,
     AV.int IntKind.i64
     (handleR
     (Lk.mk kn (1 : Int) a b c
     (List.take (imin c (57 : Int)).toNat (padR (Rec.mk a b c d f s)).6)
     (0 : Int) now)
     (Ou.mk ps dl ms cn) now).fst.cmd,
     AV.int IntKind.i64
     (handleR
     (Lk.mk kn (1 : Int) a b c
     (List.take (imin c (57 : Int)).toNat (padR (Rec.mk a b c d f s)).6)
     (0 : Int) now)
     (Ou.mk ps dl ms cn) now).fst.len,
     AV.ints false IntKind.u8
     (handleR
     (Lk.mk kn (1 : Int) a b c
     (List.take (imin c (57 : Int)).toNat (padR (Rec.mk a b c d f s)).6)
     (0 : Int) now)
     (Ou.mk ps dl ms cn) now).fst.s,
     AV.int IntKind.i64
     (handleR
     (Lk.mk kn (1 : Int) a b c
     (List.take (imin c (57 : Int)).toNat (padR (Rec.mk a b c d f s)).6)
     (0 : Int) now)
     (Ou.mk ps dl ms cn) now).fst.q,
     AV.int IntKind.i64
     (handleR
     (Lk.mk kn (1 : Int) a b c
     (List.take (imin c (57 : Int)).toNat (padR (Rec.mk a b c d f s)).6)
     (0 : Int) now)
     (Ou.mk ps dl ms cn) now).fst.t],
     AV.agg
     [AV.rs false (0 : Nat)
     (handleR
     (Lk.mk kn (1 : Int) a b c
     (List.take (imin c (57 : Int)).toNat (padR (Rec.mk a b c d f s)).6)
     (0 : Int) now)
     (Ou.mk ps dl ms cn) now).snd.ps,
     AV.bool
     (handleR
     (Lk.mk kn (1 : Int) a b c
     (List.take (imin c (57 : Int)).toNat (padR (Rec.mk a b c d f s)).6)
     (0 : Int) now)
     (Ou.mk ps dl ms cn) now).snd.dl,
     AV.ints false IntKind.u8
     (handleR
     (Lk.mk kn (1 : Int) a b c
     (List.take (imin c (57 : Int)).toNat (padR (Rec.mk a b c d f s)).6)
     (0 : Int) now)
     (Ou.mk ps dl ms cn) now).snd.ms,
     AV.bool
     (handleR
     (Lk.mk kn (1 : Int) a b c
     (List.take (imin c (57 : Int)).toNat (padR (Rec.mk a b c d f s)).6)
     (0 : Int) now)
     (Ou.mk ps dl ms cn) now).snd.cn]])
     none)))))
     (br (decide (c > (4096 : Int)))
     (chk (decide (ps.length ≤ (100000 : Nat)))
     (post
     (AV.tup
     [AV.agg
     [AV.int IntKind.i64 kn, AV.int IntKind.i64 kst, AV.int IntKind.u32 ka,
     AV.int IntKind.i64 kc, AV.int IntKind.i64 kl, AV.ints false IntKind.u8 ks,
     AV.int IntKind.i64 kq, AV.int IntKind.i64 kt],
     AV.agg
     [AV.rs false (0 : Nat) (refuseO (Ou.mk ps dl ms cn) a (8 : Int)).ps,
     AV.bool (refuseO (Ou.mk ps dl ms cn) a (8 : Int)).dl,
     AV.ints false IntKind.u8 (refuseO (Ou.mk ps dl ms cn) a (8 : Int)).ms,
     AV.bool (refuseO (Ou.mk ps dl ms cn) a (8 : Int)).cn]])
     none))
     (chk (cutB (padR (Rec.mk a b c d f s)).6.length none (some (imin c (57 : Int))))
     (chk (decide (ps.length ≤ (100000 : Nat)))
     (post
     (AV.tup
     [AV.agg
     [AV.int IntKind.i64
     (handleR
     (Lk.mk kn (1 : Int) a b c
     (List.take (imin c (57 : Int)).toNat (padR (Rec.mk a b c d f s)).6)
     (0 : Int) now)
     (Ou.mk ps dl ms cn) now).fst.n,
     AV.int IntKind.i64
     (handleR
     (Lk.mk kn (1 : Int) a b c
     (List.take (imin c (57 : Int)).toNat (padR (Rec.mk a b c d f s)).6)
     (0 : Int) now)
     (Ou.mk ps dl ms cn) now).fst.st,
     AV.int IntKind.u32
     (handleR
     (Lk.mk kn (1 : Int) a b c
     (List.take (imin c (57 : Int)).toNat (padR (Rec.mk a b c d f s)).6)
     (0 : Int) now)
     (Ou.mk ps dl ms cn) now).fst.a,
     AV.int IntKind.i64
     (handleR
     (Lk.mk kn (1 : Int) a b c
     (List.take (imin c (57 : Int)).toNat (padR (Rec.mk a b c d f s)).6)
     (0 : Int) now)
     (Ou.mk ps dl ms cn) now).fst.cmd,
     AV.int IntKind.i64
     (handleR
     (Lk.mk kn (1 : Int) a b c
     (List.take (imin c (57 : Int)).toNat (padR (Rec.mk a b c d f s)).6)
     (0 : Int) now)
     (Ou.mk ps dl ms cn) now).fst.len,
     AV.ints false IntKind.u8
     (handleR
     (Lk.mk kn (1 : Int) a b c
     (List.take (imin c (57 : Int)).toNat (padR (Rec.mk a b c d f s)).6)
     (0 : Int) now)
     (Ou.mk ps dl ms cn) now).fst.s,
     AV.int IntKind.i64
     (handleR
     (Lk.mk kn (1 : Int) a b c
     (List.take (imin c (57 : Int)).toNat (padR (Rec.mk a b c d f s)).6)
     (0 : Int) now)
     (Ou.mk ps dl ms cn) now).fst.q,
     AV.int IntKind.i64
     (handleR
     (Lk.mk kn (1 : Int) a b c
     (List.take (imin c (57 : Int)).toNat (padR (Rec.mk a b c d f s)).6)
     (0 : Int) now)
     (Ou.mk ps dl ms cn) now).fst.t],
     AV.agg
     [AV.rs false (0 : Nat)
     (handleR
     (Lk.mk kn (1 : Int) a b c
     (List.take (imin c (57 : Int)).toNat (padR (Rec.mk a b c d f s)).6)
     (0 : Int) now)
     (Ou.mk ps dl ms cn) now).snd.ps,
     AV.bool
     (handleR
     (Lk.mk kn (1 : Int) a b c
     (List.take (imin c (57 : Int)).toNat (padR (Rec.mk a b c d f s)).6)
     (0 : Int) now)
     (Ou.mk ps dl ms cn) now).snd.dl,
     AV.ints false IntKind.u8
     (handleR
     (Lk.mk kn (1 : Int) a b c
     (List.take (imin c (57 : Int)).toNat (padR (Rec.mk a b c d f s)).6)
     (0 : Int) now)
     (Ou.mk ps dl ms cn) now).snd.ms,
     AV.bool
     (handleR
     (Lk.mk kn (1 : Int) a b c
     (List.take (imin c (57 : Int)).toNat (padR (Rec.mk a b c d f s)).6)
     (0 : Int) now)
     (Ou.mk ps dl ms cn) now).snd.cn]])
     none)))))))
     (br (kst != (0 : Int))
     (chk (decide (ps.length ≤ (100000 : Nat)))
     (post
     (AV.tup
     [AV.agg
     [AV.int IntKind.i64 kn, AV.int IntKind.i64 kst, AV.int IntKind.u32 ka,
     AV.int IntKind.i64 kc, AV.int IntKind.i64 kl, AV.ints false IntKind.u8 ks,
     AV.int IntKind.i64 kq, AV.int IntKind.i64 kt],
     AV.agg
     [AV.rs false (0 : Nat) (refuseO (Ou.mk ps dl ms cn) a (32 : Int)).ps,
     AV.bool (refuseO (Ou.mk ps dl ms cn) a (32 : Int)).dl,
     AV.ints false IntKind.u8 (refuseO (Ou.mk ps dl ms cn) a (32 : Int)).ms,
     AV.bool (refuseO (Ou.mk ps dl ms cn) a (32 : Int)).cn]])
     none))
     (br (b != (1 : Int))
     (br (b != (3 : Int))
     (chk (decide (ps.length ≤ (100000 : Nat)))
     (post
     (AV.tup
     [AV.agg
     [AV.int IntKind.i64 kn, AV.int IntKind.i64 kst, AV.int IntKind.u32 ka,
     AV.int IntKind.i64 kc, AV.int IntKind.i64 kl, AV.ints false IntKind.u8 ks,
     AV.int IntKind.i64 kq, AV.int IntKind.i64 kt],
     AV.agg
     [AV.rs false (0 : Nat) (refuseO (Ou.mk ps dl ms cn) a (3 : Int)).ps,
     AV.bool (refuseO (Ou.mk ps dl ms cn) a (3 : Int)).dl,
     AV.ints false IntKind.u8 (refuseO (Ou.mk ps dl ms cn) a (3 : Int)).ms,
     AV.bool (refuseO (Ou.mk ps dl ms cn) a (3 : Int)).cn]])
     none))
     (br (decide (c > (4096 : Int)))
     (chk (decide (ps.length ≤ (100000 : Nat)))
     (post
     (AV.tup
     [AV.agg
     [AV.int IntKind.i64 kn, AV.int IntKind.i64 kst, AV.int IntKind.u32 ka,
     AV.int IntKind.i64 kc, AV.int IntKind.i64 kl, AV.ints false IntKind.u8 ks,
     AV.int IntKind.i64 kq, AV.int IntKind.i64 kt],
     AV.agg
     [AV.rs false (0 : Nat) (refuseO (Ou.mk ps dl ms cn) a (8 : Int)).ps,
     AV.bool (refuseO (Ou.mk ps dl ms cn) a (8 : Int)).dl,
     AV.ints false IntKind.u8 (refuseO (Ou.mk ps dl ms cn) a (8 : Int)).ms,
     AV.bool (refuseO (Ou.mk ps dl ms cn) a (8 : Int)).cn]])
     none))
     (chk (cutB (padR (Rec.mk a b c d f s)).6.length none (some (imin c (57 : Int))))
     (chk (decide (ps.length ≤ (100000 : Nat)))
     (post
     (AV.tup
     [AV.agg
     [AV.int IntKind.i64
     (handleR
     (Lk.mk kn (1 : Int) a b c
     (List.take (imin c (57 : Int)).toNat (padR (Rec.mk a b c d f s)).6)
     (0 : Int) now)
     (Ou.mk ps dl ms cn) now).fst.n,
     AV.int IntKind.i64
     (handleR
     (Lk.mk kn (1 : Int) a b c
     (List.take (imin c (57 : Int)).toNat (padR (Rec.mk a b c d f s)).6)
     (0 : Int) now)
     (Ou.mk ps dl ms cn) now).fst.st,
     AV.int IntKind.u32
     (handleR
     (Lk.mk kn (1 : Int) a b c
     (List.take (imin c (57 : Int)).toNat (padR (Rec.mk a b c d f s)).6)
     (0 : Int) now)
     (Ou.mk ps dl ms cn) now).fst.a,
     AV.int IntKind.i64
     (handleR
     (Lk.mk kn (1 : Int) a b c
     (List.take (imin c (57 : Int)).toNat (padR (Rec.mk a b c d f s)).6)
     (0 : Int) now)
     (Ou.mk ps dl ms cn) now).fst.cmd,
     AV.int IntKind.i64
     (handleR
     (Lk.mk kn (1 : Int) a b c
     (List.take (imin c (57 : Int)).toNat (padR (Rec.mk a b c d f s)).6)
     (0 : Int) now)
     (Ou.mk ps dl ms cn) now).fst.len,
     AV.ints false IntKind.u8
     (handleR
     (Lk.mk kn (1 : Int) a b c
     (List.take (imin c (57 : Int)).toNat (padR (Rec.mk a b c d f s)).6)
     (0 : Int) now)
     (Ou.mk ps dl ms cn) now).fst.s,
     AV.int IntKind.i64
     (handleR
     (Lk.mk kn (1 : Int) a b c
     (List.take (imin c (57 : Int)).toNat (padR (Rec.mk a b c d f s)).6)
     (0 : Int) now)
     (Ou.mk ps dl ms cn) now).fst.q,
     AV.int IntKind.i64
     (handleR
     (Lk.mk kn (1 : Int) a b c
     (List.take (imin c (57 : Int)).toNat (padR (Rec.mk a b c d f s)).6)
     (0 : Int) now)
     (Ou.mk ps dl ms cn) now).fst.t],
     AV.agg
     [AV.rs false (0 : Nat)
     (handleR
     (Lk.mk kn (1 : Int) a b c
     (List.take (imin c (57 : Int)).toNat (padR (Rec.mk a b c d f s)).6)
     (0 : Int) now)
     (Ou.mk ps dl ms cn) now).snd.ps,
     AV.bool
     (handleR
     (Lk.mk kn (1 : Int) a b c
     (List.take (imin c (57 : Int)).toNat (padR (Rec.mk a b c d f s)).6)
     (0 : Int) now)
     (Ou.mk ps dl ms cn) now).snd.dl,
     AV.ints false IntKind.u8
     (handleR
     (Lk.mk kn (1 : Int) a b c
     (List.take (imin c (57 : Int)).toNat (padR (Rec.mk a b c d f s)).6)
     (0 : Int) now)
     (Ou.mk ps dl ms cn) now).snd.ms,
     AV.bool
     (handleR
     (Lk.mk kn (1 : Int) a b c
     (List.take (imin c (57 : Int)).toNat (padR (Rec.mk a b c d f s)).6)
     (0 : Int) now)
     (Ou.mk ps dl ms cn) now).snd.cn]])
     none)))))
     (br (decide (c > (4096 : Int)))
     (chk (decide (ps.length ≤ (100000 : Nat)))
     (post
     (AV.tup
     [AV.agg
     [AV.int IntKind.i64 kn, AV.int IntKind.i64 kst, AV.int IntKind.u32 ka,
     AV.int IntKind.i64 kc, AV.int IntKind.i64 kl, AV.ints false IntKind.u8 ks,
     AV.int IntKind.i64 kq, AV.int IntKind.i64 kt],
     AV.agg
     [AV.rs false (0 : Nat) (refuseO (Ou.mk ps dl ms cn) a (8 : Int)).ps,
     AV.bool (refuseO (Ou.mk ps dl ms cn) a (8 : Int)).dl,
     AV.ints false IntKind.u8 (refuseO (Ou.mk ps dl ms cn) a (8 : Int)).ms,
     AV.bool (refuseO (Ou.mk ps dl ms cn) a (8 : Int)).cn]])
     none))
     (chk (cutB (padR (Rec.mk a b c d f s)).6.length none (some (imin c (57 : Int))))
     (chk (decide (ps.length ≤ (100000 : Nat)))
     (post
     (AV.tup
     [AV.agg
     [AV.int IntKind.i64
     (handleR
     (Lk.mk kn (1 : Int) a b c
     (List.take (imin c (57 : Int)).toNat (padR (Rec.mk a b c d f s)).6)
     (0 : Int) now)
     (Ou.mk ps dl ms cn) now).fst.n,
     AV.int IntKind.i64
     (handleR
     (Lk.mk kn (1 : Int) a b c
     (List.take (imin c (57 : Int)).toNat (padR (Rec.mk a b c d f s)).6)
     (0 : Int) now)
     (Ou.mk ps dl ms cn) now).fst.st,
     AV.int IntKind.u32
     (handleR
     (Lk.mk kn (1 : Int) a b c
     (List.take (imin c (57 : Int)).toNat (padR (Rec.mk a b c d f s)).6)
     (0 : Int) now)
     (Ou.mk ps dl ms cn) now).fst.a,
     AV.int IntKind.i64
     (handleR
     (Lk.mk kn (1 : Int) a b c
     (List.take (imin c (57 : Int)).toNat (padR (Rec.mk a b c d f s)).6)
     (0 : Int) now)
     (Ou.mk ps dl ms cn) now).fst.cmd,
     AV.int IntKind.i64
     (handleR
     (Lk.mk kn (1 : Int) a b c
     (List.take (imin c (57 : Int)).toNat (padR (Rec.mk a b c d f s)).6)
     (0 : Int) now)
     (Ou.mk ps dl ms cn) now).fst.len,
     AV.ints false IntKind.u8
     (handleR
     (Lk.mk kn (1 : Int) a b c
     (List.take (imin c (57 : Int)).toNat (padR (Rec.mk a b c d f s)).6)
     (0 : Int) now)
     (Ou.mk ps dl ms cn) now).fst.s,
     AV.int IntKind.i64
     (handleR
     (Lk.mk kn (1 : Int) a b c
     (List.take (imin c (57 : Int)).toNat (padR (Rec.mk a b c d f s)).6)
     (0 : Int) now)
     (Ou.mk ps dl ms cn) now).fst.q,
     AV.int IntKind.i64
     (handleR
     (Lk.mk kn (1 : Int) a b c
     (List.take (imin c (57 : Int)).toNat (padR (Rec.mk a b c d f s)).6)
     (0 : Int) now)
     (Ou.mk ps dl ms cn) now).fst.t],
     AV.agg
     [AV.rs false (0 : Nat)
     (handleR
     (Lk.mk kn (1 : Int) a b c
     (List.take (imin c (57 : Int)).toNat (padR (Rec.mk a b c d f s)).6)
     (0 : Int) now)
     (Ou.mk ps dl ms cn) now).snd.ps,
     AV.bool
     (handleR
     (Lk.mk kn (1 : Int) a b c
     (List.take (imin c (57 : Int)).toNat (padR (Rec.mk a b c d f s)).6)
     (0 : Int) now)
     (Ou.mk ps dl ms cn) now).snd.dl,
     AV.ints false IntKind.u8
     (handleR
     (Lk.mk kn (1 : Int) a b c
     (List.take (imin c (57 : Int)).toNat (padR (Rec.mk a b c d f s)).6)
     (0 : Int) now)
     (Ou.mk ps dl ms cn) now).snd.ms,
     AV.bool
     (handleR
     (Lk.mk kn (1 : Int) a b c
     (List.take (imin c (57 : Int)).toNat (padR (Rec.mk a b c d f s)).6)
     (0 : Int) now)
     (Ou.mk ps dl ms cn) now).snd.cn]])
     none)))))))))))))
     (chk (decide (s.length ≤ (100000 : Nat)))
     (br (a == (4294967295 : Int))
     (br (b != (6 : Int))
     (chk (decide (ps.length ≤ (100000 : Nat)))
     (post
     (AV.tup
     [AV.agg
     [AV.int IntKind.i64 kn, AV.int IntKind.i64 kst, AV.int IntKind.u32 ka, AV.int IntKind.i64 kc,
     AV.int IntKind.i64 kl, AV.ints false IntKind.u8 ks, AV.int IntKind.i64 kq, AV.int IntKind.i64 kt],
     AV.agg
     [AV.rs false (0 : Nat) (refuseO (Ou.mk ps dl ms cn) a (3 : Int)).ps,
     AV.bool (refuseO (Ou.mk ps dl ms cn) a (3 : Int)).dl,
     AV.ints false IntKind.u8 (refuseO (Ou.mk ps dl ms cn) a (3 : Int)).ms,
     AV.bool (refuseO (Ou.mk ps dl ms cn) a (3 : Int)).cn]])
     none))
     (br (c != (8 : Int))
     (chk (decide (ps.length ≤ (100000 : Nat)))
     (post
     (AV.tup
     [AV.agg
     [AV.int IntKind.i64 kn, AV.int IntKind.i64 kst, AV.int IntKind.u32 ka, AV.int IntKind.i64 kc,
     AV.int IntKind.i64 kl, AV.ints false IntKind.u8 ks, AV.int IntKind.i64 kq, AV.int IntKind.i64 kt],
     AV.agg
     [AV.rs false (0 : Nat) (refuseO (Ou.mk ps dl ms cn) a (2 : Int)).ps,
     AV.bool (refuseO (Ou.mk ps dl ms cn) a (2 : Int)).dl,
     AV.ints false IntKind.u8 (refuseO (Ou.mk ps dl ms cn) a (2 : Int)).ms,
     AV.bool (refuseO (Ou.mk ps dl ms cn) a (2 : Int)).cn]])
     none))
     (br (decide (kn ≥ (32 : Int)))
     (chk (decide (ps.length ≤ (100000 : Nat)))
     (post
     (AV.tup
     [AV.agg
     [AV.int IntKind.i64 kn, AV.int IntKind.i64 kst, AV.int IntKind.u32 ka, AV.int IntKind.i64 kc,
     AV.int IntKind.i64 kl, AV.ints false IntKind.u8 ks, AV.int IntKind.i64 kq,
     AV.int IntKind.i64 kt],
     AV.agg
     [AV.rs false (0 : Nat) (refuseO (Ou.mk ps dl ms cn) a (12 : Int)).ps,
     AV.bool (refuseO (Ou.mk ps dl ms cn) a (12 : Int)).dl,
     AV.ints false IntKind.u8 (refuseO (Ou.mk ps dl ms cn) a (12 : Int)).ms,
     AV.bool (refuseO (Ou.mk ps dl ms cn) a (12 : Int)).cn]])
     none))
     (chk (true && decide ((8 : Int) ≤ @Nat.cast Int _ (padR (Rec.mk a b c d f s)).6.length))
     (chk
     (decide ((0 : Nat) < (b4 (IntKind.u32.wrap (IntKind.i64.wrap (kn + (1 : Int))))).length) &&
     decide
     ((List.take (8 : Nat) (padR (Rec.mk a b c d f s)).6).length +
     (b4 (IntKind.u32.wrap (IntKind.i64.wrap (kn + (1 : Int))))).length ≤
     (1099511627776 : Nat)))
     (chk (decide (ps.length ≤ (100000 : Nat)))
     (post
     (AV.tup
     [AV.agg
     [AV.int IntKind.i64 (IntKind.i64.wrap (kn + (1 : Int))), AV.int IntKind.i64 kst,
     AV.int IntKind.u32 ka, AV.int IntKind.i64 kc, AV.int IntKind.i64 kl,
     AV.ints false IntKind.u8 ks, AV.int IntKind.i64 kq, AV.int IntKind.i64 kt],
     AV.agg
     [AV.rs false (0 : Nat)
     (replyO (Ou.mk ps dl ms cn) a (6 : Int)
     (List.take (8 : Nat) (padR (Rec.mk a b c d f s)).6 ++
     b4 (IntKind.u32.wrap (IntKind.i64.wrap (kn + (1 : Int)))))).ps,
     AV.bool
     (replyO (Ou.mk ps dl ms cn) a (6 : Int)
     (List.take (8 : Nat) (padR (Rec.mk a b c d f s)).6 ++
     b4 (IntKind.u32.wrap (IntKind.i64.wrap (kn + (1 : Int)))))).dl,
     AV.ints false IntKind.u8
     (replyO (Ou.mk ps dl ms cn) a (6 : Int)
     (List.take (8 : Nat) (padR (Rec.mk a b c d f s)).6 ++
     b4 (IntKind.u32.wrap (IntKind.i64.wrap (kn + (1 : Int)))))).ms,
     AV.bool
     (replyO (Ou.mk ps dl ms cn) a (6 : Int)
     (List.take (8 : Nat) (padR (Rec.mk a b c d f s)).6 ++
     b4 (IntKind.u32.wrap (IntKind.i64.wrap (kn + (1 : Int)))))).cn]])
     none)))))))
     (br (a == (0 : Int))
     (chk (decide (ps.length ≤ (100000 : Nat)))
     (post
     (AV.tup
     [AV.agg
     [AV.int IntKind.i64 kn, AV.int IntKind.i64 kst, AV.int IntKind.u32 ka, AV.int IntKind.i64 kc,
     AV.int IntKind.i64 kl, AV.ints false IntKind.u8 ks, AV.int IntKind.i64 kq, AV.int IntKind.i64 kt],
     AV.agg
     [AV.rs false (0 : Nat) (refuseO (Ou.mk ps dl ms cn) a (11 : Int)).ps,
     AV.bool (refuseO (Ou.mk ps dl ms cn) a (11 : Int)).dl,
     AV.ints false IntKind.u8 (refuseO (Ou.mk ps dl ms cn) a (11 : Int)).ms,
     AV.bool (refuseO (Ou.mk ps dl ms cn) a (11 : Int)).cn]])
     none))
     (br (decide (a > IntKind.u32.wrap kn))
     (chk (decide (ps.length ≤ (100000 : Nat)))
     (post
     (AV.tup
     [AV.agg
     [AV.int IntKind.i64 kn, AV.int IntKind.i64 kst, AV.int IntKind.u32 ka, AV.int IntKind.i64 kc,
     AV.int IntKind.i64 kl, AV.ints false IntKind.u8 ks, AV.int IntKind.i64 kq, AV.int IntKind.i64 kt],
     AV.agg
     [AV.rs false (0 : Nat) (refuseO (Ou.mk ps dl ms cn) a (11 : Int)).ps,
     AV.bool (refuseO (Ou.mk ps dl ms cn) a (11 : Int)).dl,
     AV.ints false IntKind.u8 (refuseO (Ou.mk ps dl ms cn) a (11 : Int)).ms,
     AV.bool (refuseO (Ou.mk ps dl ms cn) a (11 : Int)).cn]])
     none))
     (br (b == (6 : Int))
     (br (c != (8 : Int))
     (chk (decide (ps.length ≤ (100000 : Nat)))
     (post
     (AV.tup
     [AV.agg
     [AV.int IntKind.i64 kn, AV.int IntKind.i64 kst, AV.int IntKind.u32 ka, AV.int IntKind.i64 kc,
     AV.int IntKind.i64 kl, AV.ints false IntKind.u8 ks, AV.int IntKind.i64 kq,
     AV.int IntKind.i64 kt],
     AV.agg
     [AV.rs false (0 : Nat) (refuseO (Ou.mk ps dl ms cn) a (2 : Int)).ps,
     AV.bool (refuseO (Ou.mk ps dl ms cn) a (2 : Int)).dl,
     AV.ints false IntKind.u8 (refuseO (Ou.mk ps dl ms cn) a (2 : Int)).ms,
     AV.bool (refuseO (Ou.mk ps dl ms cn) a (2 : Int)).cn]])
     none))
     (chk (true && decide ((8 : Int) ≤ @Nat.cast Int _ (padR (Rec.mk a b c d f s)).6.length))
     (chk
     (decide ((0 : Nat) < (b4 a).length) &&
     decide
     ((List.take (8 : Nat) (padR (Rec.mk a b c d f s)).6).length + (b4 a).length ≤
     (1099511627776 : Nat)))
     (chk (decide (ps.length ≤ (100000 : Nat)))
     (post
     (AV.tup
     [AV.agg
     [AV.int IntKind.i64 kn, AV.int IntKind.i64 kst, AV.int IntKind.u32 ka,
     AV.int IntKind.i64 kc, AV.int IntKind.i64 kl, AV.ints false IntKind.u8 ks,
     AV.int IntKind.i64 kq, AV.int IntKind.i64 kt],
     AV.agg
     [AV.rs false (0 : Nat)
     (replyO (Ou.mk ps dl ms cn) a (6 : Int)
     (List.take (8 : Nat) (padR (Rec.mk a b c d f s)).6 ++ b4 a)).ps,
     AV.bool
     (replyO (Ou.mk ps dl ms cn) a (6 : Int)
     (List.take (8 : Nat) (padR (Rec.mk a b c d f s)).6 ++ b4 a)).dl,
     AV.ints false IntKind.u8
     (replyO (Ou.mk ps dl ms cn) a (6 : Int)
     (List.take (8 : Nat) (padR (Rec.mk a b c d f s)).6 ++ b4 a)).ms,
     AV.bool
     (replyO (Ou.mk ps dl ms cn) a (6 : Int)
     (List.take (8 : Nat) (padR (Rec.mk a b c d f s)).6 ++ b4 a)).cn]])
     none)))))
     (br (b == (17 : Int))
     (post
     (AV.tup
     [AV.agg
     [AV.int IntKind.i64 kn, AV.int IntKind.i64 kst, AV.int IntKind.u32 ka, AV.int IntKind.i64 kc,
     AV.int IntKind.i64 kl, AV.ints false IntKind.u8 ks, AV.int IntKind.i64 kq,
     AV.int IntKind.i64 kt],
     AV.agg [AV.rs false (0 : Nat) ps, AV.bool dl, AV.ints false IntKind.u8 ms, AV.bool false]])
     none)
     (br (kst != (0 : Int))
     (chk (decide (ps.length ≤ (100000 : Nat)))
     (post
     (AV.tup
     [AV.agg
     [AV.int IntKind.i64 kn, AV.int IntKind.i64 kst, AV.int IntKind.u32 ka, AV.int IntKind.i64 kc,
     AV.int IntKind.i64 kl, AV.ints false IntKind.u8 ks, AV.int IntKind.i64 kq,
     AV.int IntKind.i64 kt],
     AV.agg
     [AV.rs false (0 : Nat) (refuseO (Ou.mk ps dl ms cn) a (32 : Int)).ps,
     AV.bool (refuseO (Ou.mk ps dl ms cn) a (32 : Int)).dl,
     AV.ints false IntKind.u8 (refuseO (Ou.mk ps dl ms cn) a (32 : Int)).ms,
     AV.bool (refuseO (Ou.mk ps dl ms cn) a (32 : Int)).cn]])
     none))
     (br (b != (1 : Int))
     (br (b != (3 : Int))
     (chk (decide (ps.length ≤ (100000 : Nat)))
     (post
     (AV.tup
     [AV.agg
     [AV.int IntKind.i64 kn, AV.int IntKind.i64 kst, AV.int IntKind.u32 ka,
     AV.int IntKind.i64 kc, AV.int IntKind.i64 kl, AV.ints false IntKind.u8 ks,
     AV.int IntKind.i64 kq, AV.int IntKind.i64 kt],
     AV.agg
     [AV.rs false (0 : Nat) (refuseO (Ou.mk ps dl ms cn) a (3 : Int)).ps,
     AV.bool (refuseO (Ou.mk ps dl ms cn) a (3 : Int)).dl,
     AV.ints false IntKind.u8 (refuseO (Ou.mk ps dl ms cn) a (3 : Int)).ms,
     AV.bool (refuseO (Ou.mk ps dl ms cn) a (3 : Int)).cn]])
     none))
     (br (decide (c > (4096 : Int)))
     (chk (decide (ps.length ≤ (100000 : Nat)))
     (post
     (AV.tup
     [AV.agg
     [AV.int IntKind.i64 kn, AV.int IntKind.i64 kst, AV.int IntKind.u32 ka,
     AV.int IntKind.i64 kc, AV.int IntKind.i64 kl, AV.ints false IntKind.u8 ks,
     AV.int IntKind.i64 kq, AV.int IntKind.i64 kt],
     AV.agg
     [AV.rs false (0 : Nat) (refuseO (Ou.mk ps dl ms cn) a (8 : Int)).ps,
     AV.bool (refuseO (Ou.mk ps dl ms cn) a (8 : Int)).dl,
     AV.ints false IntKind.u8 (refuseO (Ou.mk ps dl ms cn) a (8 : Int)).ms,
     AV.bool (refuseO (Ou.mk ps dl ms cn) a (8 : Int)).cn]])
     none))
     (chk (cutB (padR (Rec.mk a b c d f s)).6.length none (some (imin c (57 : Int))))
     (chk (decide (ps.length ≤ (100000 : Nat)))
     (post
     (AV.tup
     [AV.agg
     [AV.int IntKind.i64
     (handleR
     (Lk.mk kn (1 : Int) a b c
     (List.take (imin c (57 : Int)).toNat (padR (Rec.mk a b c d f s)).6)
     (0 : Int) now)
     (Ou.mk ps dl ms cn) now).fst.n,
     AV.int IntKind.i64
     (handleR
     (Lk.mk kn (1 : Int) a b c
     (List.take (imin c (57 : Int)).toNat (padR (Rec.mk a b c d f s)).6)
     (0 : Int) now)
     (Ou.mk ps dl ms cn) now).fst.st,
     AV.int IntKind.u32
     (handleR
     (Lk.mk kn (1 : Int) a b c
     (List.take (imin c (57 : Int)).toNat (padR (Rec.mk a b c d f s)).6)
     (0 : Int) now)
     (Ou.mk ps dl ms cn) now).fst.a,
     AV.int IntKind.i64
     (handleR
     (Lk.mk kn (1 : Int) a b c
     (List.take (imin c (57 : Int)).toNat (padR (Rec.mk a b c d f s)).6)
     (0 : Int) now)
     (Ou.mk ps dl ms cn) now).fst.cmd,
     AV.int IntKind.i64
     (handleR
     (Lk.mk kn (1 : Int) a b c
     (List.take (imin c (57 : Int)).toNat (padR (Rec.mk a b c d f s)).6)
     (0 : Int) now)
     (Ou.mk ps dl ms cn) now).fst.len,
     AV.ints false IntKind.u8
     (handleR
     (Lk.mk kn (1 : Int) a b c
     (List.take (imin c (57 : Int)).toNat (padR (Rec.mk a b c d f s)).6)
     (0 : Int) now)
     (Ou.mk ps dl ms cn) now).fst.s,
     AV.int IntKind.i64
     (handleR
     (Lk.mk kn (1 : Int) a b c
     (List.take (imin c (57 : Int)).toNat (padR (Rec.mk a b c d f s)).6)
     (0 : Int) now)
     (Ou.mk ps dl ms cn) now).fst.q,
     AV.int IntKind.i64
     (handleR
     (Lk.mk kn (1 : Int) a b c
     (List.take (imin c (57 : Int)).toNat (padR (Rec.mk a b c d f s)).6)
     (0 : Int) now)
     (Ou.mk ps dl ms cn) now).fst.t],
     AV.agg
     [AV.rs false (0 : Nat)
     (handleR
     (Lk.mk kn (1 : Int) a b c
     (List.take (imin c (57 : Int)).toNat (padR (Rec.mk a b c d f s)).6)
     (0 : Int) now)
     (Ou.mk ps dl ms cn) now).snd.ps,
     AV.bool
     (handleR
     (Lk.mk kn (1 : Int) a b c
     (List.take (imin c (57 : Int)).toNat (padR (Rec.mk a b c d f s)).6)
     (0 : Int) now)
     (Ou.mk ps dl ms cn) now).snd.dl,
     AV.ints false IntKind.u8
     (handleR
     (Lk.mk kn (1 : Int) a b c
     (List.take (imin c (57 : Int)).toNat (padR (Rec.mk a b c d f s)).6)
     (0 : Int) now)
     (Ou.mk ps dl ms cn) now).snd.ms,
     AV.bool
     (handleR
     (Lk.mk kn (1 : Int) a b c
     (List.take (imin c (57 : Int)).toNat (padR (Rec.mk a b c d f s)).6)
     (0 : Int) now)
     (Ou.mk ps dl ms cn) now).snd.cn]])
     none)))))
     (br (decide (c > (4096 : Int)))
     (chk (decide (ps.length ≤ (100000 : Nat)))
     (post
     (AV.tup
     [AV.agg
     [AV.int IntKind.i64 kn, AV.int IntKind.i64 kst, AV.int IntKind.u32 ka,
     AV.int IntKind.i64 kc, AV.int IntKind.i64 kl, AV.ints false IntKind.u8 ks,
     AV.int IntKind.i64 kq, AV.int IntKind.i64 kt],
     AV.agg
     [AV.rs false (0 : Nat) (refuseO (Ou.mk ps dl ms cn) a (8 : Int)).ps,
     AV.bool (refuseO (Ou.mk ps dl ms cn) a (8 : Int)).dl,
     AV.ints false IntKind.u8 (refuseO (Ou.mk ps dl ms cn) a (8 : Int)).ms,
     AV.bool (refuseO (Ou.mk ps dl ms cn) a (8 : Int)).cn]])
     none))
     (chk (cutB (padR (Rec.mk a b c d f s)).6.length none (some (imin c (57 : Int))))
     (chk (decide (ps.length ≤ (100000 : Nat)))
     (post
     (AV.tup
     [AV.agg
     [AV.int IntKind.i64
     (handleR
     (Lk.mk kn (1 : Int) a b c
     (List.take (imin c (57 : Int)).toNat (padR (Rec.mk a b c d f s)).6)
     (0 : Int) now)
     (Ou.mk ps dl ms cn) now).fst.n,
     AV.int IntKind.i64
     (handleR
     (Lk.mk kn (1 : Int) a b c
     (List.take (imin c (57 : Int)).toNat (padR (Rec.mk a b c d f s)).6)
     (0 : Int) now)
     (Ou.mk ps dl ms cn) now).fst.st,
     AV.int IntKind.u32
     (handleR
     (Lk.mk kn (1 : Int) a b c
     (List.take (imin c (57 : Int)).toNat (padR (Rec.mk a b c d f s)).6)
     (0 : Int) now)
     (Ou.mk ps dl ms cn) now).fst.a,
     AV.int IntKind.i64
     (handleR
     (Lk.mk kn (1 : Int) a b c
     (List.take (imin c (57 : Int)).toNat (padR (Rec.mk a b c d f s)).6)
     (0 : Int) now)
     (Ou.mk ps dl ms cn) now).fst.cmd,
     AV.int IntKind.i64
     (handleR
     (Lk.mk kn (1 : Int) a b c
     (List.take (imin c (57 : Int)).toNat (padR (Rec.mk a b c d f s)).6)
     (0 : Int) now)
     (Ou.mk ps dl ms cn) now).fst.len,
     AV.ints false IntKind.u8
     (handleR
     (Lk.mk kn (1 : Int) a b c
     (List.take (imin c (57 : Int)).toNat (padR (Rec.mk a b c d f s)).6)
     (0 : Int) now)
     (Ou.mk ps dl ms cn) now).fst.s,
     AV.int IntKind.i64
     (handleR
     (Lk.mk kn (1 : Int) a b c
     (List.take (imin c (57 : Int)).toNat (padR (Rec.mk a b c d f s)).6)
     (0 : Int) now)
     (Ou.mk ps dl ms cn) now).fst.q,
     AV.int IntKind.i64
     (handleR
     (Lk.mk kn (1 : Int) a b c
     (List.take (imin c (57 : Int)).toNat (padR (Rec.mk a b c d f s)).6)
     (0 : Int) now)
     (Ou.mk ps dl ms cn) now).fst.t],
     AV.agg
     [AV.rs false (0 : Nat)
     (handleR
     (Lk.mk kn (1 : Int) a b c
     (List.take (imin c (57 : Int)).toNat (padR (Rec.mk a b c d f s)).6)
     (0 : Int) now)
     (Ou.mk ps dl ms cn) now).snd.ps,
     AV.bool
     (handleR
     (Lk.mk kn (1 : Int) a b c
     (List.take (imin c (57 : Int)).toNat (padR (Rec.mk a b c d f s)).6)
     (0 : Int) now)
     (Ou.mk ps dl ms cn) now).snd.dl,
     AV.ints false IntKind.u8
     (handleR
     (Lk.mk kn (1 : Int) a b c
     (List.take (imin c (57 : Int)).toNat (padR (Rec.mk a b c d f s)).6)
     (0 : Int) now)
     (Ou.mk ps dl ms cn) now).snd.ms,
     AV.bool
     (handleR
     (Lk.mk kn (1 : Int) a b c
     (List.take (imin c (57 : Int)).toNat (padR (Rec.mk a b c d f s)).6)
     (0 : Int) now)
     (Ou.mk ps dl ms cn) now).snd.cn]])
     none))))))))))))) := by kernel_rfl
theorem p69_0 (kn kst ka kc kl kq kt : Int) (ks : List Int) (ps : List Rec) (ms : List Int) (dl cn : Bool) (now : Int) (a b c d : Int) (f : Bool) (s : List Int) (post : AV → Option AV → Prop) (hin : InRL [.agg [.int .i64 kn, .int .i64 kst, .int .u32 ka, .int .i64 kc, .int .i64 kl, .ints false .u8 ks, .int .i64 kq, .int .i64 kt], .int .i64 now, .agg [.int .u32 a, .bool f, .int .i64 b, .int .i64 c, .int .i64 d, .ints false .u8 s], .agg [.rs false 0 ps, .bool dl, .ints false .u8 ms, .bool cn]]) (hie : InRO none) (h : chk (decide (ps.length ≤ 100000 ∧ ks.length ≤ 100000 ∧ s.length ≤ 100000 ∧ -1000000 ≤ kl ∧ kl ≤ 1000000 ∧ 0 ≤ c ∧ c ≤ 1000000)) (retR post (firstL ⟨kn, kst, ka, kc, kl, ks, kq, kt⟩ ⟨ps, dl, ms, cn⟩ now ⟨a, b, c, d, f, s⟩))) : Ok (runF c69 pm69 Proofs.Try.f69 [.agg [.int .i64 kn, .int .i64 kst, .int .u32 ka, .int .i64 kc, .int .i64 kl, .ints false .u8 ks, .int .i64 kq, .int .i64 kt], .int .i64 now, .agg [.int .u32 a, .bool f, .int .i64 b, .int .i64 c, .int .i64 d, .ints false .u8 s], .agg [.rs false 0 ps, .bool dl, .ints false .u8 ms, .bool cn]] none (post)) := by
  refine ⟨?_⟩
  rw [t69_0]
  obtain ⟨h1, h2⟩ := chk_iff.1 h
  have hq := of_decide_eq_true h1
  clear h h1 hin hie
  have hp := pad_rng ⟨a, b, c, d, f, s⟩
  dsimp only at hp
  have hm := imin_rng c 57 (by omega) (by omega)
  repeat' first
    | with_reducible refine br_ne (fun _ => ?_) (fun _ => ?_)
    | with_reducible refine br_eq (fun _ => ?_) (fun _ => ?_)
    | with_reducible refine br_dec (fun _ => ?_) (fun _ => ?_)
    | with_reducible refine chk_dec (by omega) ?_
    | with_reducible refine chk_of (cut_hi (by omega) (by omega)) ?_
    | with_reducible refine chk_and (chk_of rfl ?_)
    | with_reducible refine chk_and ?_
    | with_reducible refine chk_dec (by rw [b4_len]; omega) ?_
    | with_reducible refine chk_dec (by rw [List.length_take, b4_len]; omega) ?_
  all_goals first | (exfalso; omega) | dsimp only [firstL, firstB, firstI, firstC, firstN] at h2
  all_goals (repeat first | rw [if_pos (by omega)] at h2 | rw [if_neg (by omega)] at h2)
  all_goals exact h2
theorem k69 : Keeps Proofs.Try.prog 69 S69 := by
  refine ⟨?_, Proofs.Try.f69, by kernel_rfl, by kernel_rfl, by kernel_rfl⟩
  intro args e post h
  unfold S69 at h
  split at h
  · refine Spec.inR fun hin hie => fun_ok' (c := c69) gamL_ok (l := u69) a69 rfl mixed_ok (fn := Proofs.Try.f69) (show Proofs.Try.prog.funcs[69]? = some Proofs.Try.f69 by kernel_rfl) (by kernel_rfl) (ls := []) rfl (.inl rfl) trivial (pm := pm69) (by simp [c69]) (by rintro ⟨t, l, h⟩; cases h) ?_
    exact p69_0 _ _ _ _ _ _ _ _ _ _ _ _ _ _ _ _ _ _ _ _ hin hie h
  · exact h.elim
end Go.Proofs.Ytokeanadhihlfaa.V
