import Derived.Test.YtokeanadhihlfaaPlans
import Derived.Test.YtokeanadhihlfaaMB
import Derived.Test.YtokeanadhihlfaaProg
import Derived.Test.YtokeanadhihlfaaS0
import Derived.Test.YtokeanadhihlfaaS1
import Derived.Test.YtokeanadhihlfaaS2
import Derived.Test.YtokeanadhihlfaaS3
import Derived.Test.YtokeanadhihlfaaS4
import Derived.Test.YtokeanadhihlfaaB1
import Derived.Test.YtokeanadhihlfaaP4
import Derived.Test.YtokeanadhihlfaaL1
import Derived.Test.YtokeanadhihlfaaPlansB
import Derived.KernelRfl
set_option linter.all false
set_option maxHeartbeats 1000000
namespace Go.Proofs.Ytokeanadhihlfaa.V
open Go
def pm76 : Pm := ⟨[lkS, ouP, .s], .ln 1 0 (.lr 38 0), [lkS, ouR]⟩
def u76 : List (Nat × Tr) := [(58, S58), (74, S74)]
theorem a76 : AllKeep Proofs.Try.prog u76 := ⟨k58, k74, trivial⟩

def c76 : Cfg := { n := 42, Γ := GamL, C := ofL u76, pm := pmL [(58, pm58), (74, pm74)], plan := planB76, L := lpL [], unroll := nmL [], keep := kpL [] }
def S76 : Tr
  | [.agg [.int .i64 kn, .int .i64 kst, .int .u32 ka, .int .i64 kc, .int .i64 kl, .ints false .u8 ks, .int .i64 kq, .int .i64 kt], .agg [.ownf 1000, .bool dl, .ints false .u8 ms, .bool cn], .int .i64 now], some (.linr 38 0 ps), post => chk (decide (ps.length ≤ 100000)) (post (.tup [(handleL ⟨kn, kst, ka, kc, kl, ks, kq, kt⟩ ⟨ps, dl, ms, cn⟩ now).1.V, (handleL ⟨kn, kst, ka, kc, kl, ks, kq, kt⟩ ⟨ps, dl, ms, cn⟩ now).2.E]) (some (handleL ⟨kn, kst, ka, kc, kl, ks, kq, kt⟩ ⟨ps, dl, ms, cn⟩ now).2.M))
  | _, _, _ => False
theorem t76_0 (kn kst ka kc kl kq kt : Int) (ks : List Int) (ps : List Rec) (ms : List Int) (dl cn : Bool) (now : Int) (post : AV → Option AV → Prop) : runF c76 pm76 Proofs.Try.f76 [.agg [.int .i64 kn, .int .i64 kst, .int .u32 ka, .int .i64 kc, .int .i64 kl, .ints false .u8 ks, .int .i64 kq, .int .i64 kt], .agg [.ownf 1000, .bool dl, .ints false .u8 ms, .bool cn], .int .i64 now] (some (.linr 38 0 ps)) post = (br (decide (@Nat.cast Int _ ks.length < kl))
     (post
     (AV.tup
     [AV.agg
     [AV.int IntKind.i64 kn, AV.int IntKind.i64 kst, AV.int IntKind.u32 ka, AV.int IntKind.i64 kc,
     AV.int IntKind.i64 kl, AV.ints false IntKind.u8 ks, AV.int IntKind.i64 kq, AV.int IntKind.i64 kt],
     AV.agg [AV.ownf (1000 : Nat), AV.bool dl, AV.ints false IntKind.u8 ms, AV.bool cn]])
     (some (AV.linr (38 : Nat) (0 : Nat) ps)))
     (br (kc != (3 : Int))
     (chk (decide (ps.length ≤ (100000 : Nat)))
     (post
     (AV.tup
     [AV.agg
     [AV.int IntKind.i64 (idleL (Lk.mk kn kst ka kc kl ks kq kt)).n,
     AV.int IntKind.i64 (idleL (Lk.mk kn kst ka kc kl ks kq kt)).st,
     AV.int IntKind.u32 (idleL (Lk.mk kn kst ka kc kl ks kq kt)).a,
     AV.int IntKind.i64 (idleL (Lk.mk kn kst ka kc kl ks kq kt)).cmd,
     AV.int IntKind.i64 (idleL (Lk.mk kn kst ka kc kl ks kq kt)).len,
     AV.ints false IntKind.u8 (idleL (Lk.mk kn kst ka kc kl ks kq kt)).s,
     AV.int IntKind.i64 (idleL (Lk.mk kn kst ka kc kl ks kq kt)).q,
     AV.int IntKind.i64 (idleL (Lk.mk kn kst ka kc kl ks kq kt)).t],
     AV.agg
     [AV.ownf (1000 : Nat), AV.bool (replyO (Ou.mk ps dl ms cn) ka kc ks).dl,
     AV.ints false IntKind.u8 (replyO (Ou.mk ps dl ms cn) ka kc ks).ms,
     AV.bool (replyO (Ou.mk ps dl ms cn) ka kc ks).cn]])
     (some (AV.linr (38 : Nat) (0 : Nat) (replyO (Ou.mk ps dl ms cn) ka kc ks).ps))))
     (post
     (AV.tup
     [AV.agg
     [AV.int IntKind.i64 kn, AV.int IntKind.i64 (2 : Int), AV.int IntKind.u32 ka, AV.int IntKind.i64 kc,
     AV.int IntKind.i64 (0 : Int), AV.ints false IntKind.u8 [], AV.int IntKind.i64 (0 : Int),
     AV.int IntKind.i64 now],
     AV.agg [AV.ownf (1000 : Nat), AV.bool true, AV.ints false IntKind.u8 ks, AV.bool cn]])
     (some (AV.linr (38 : Nat) (0 : Nat) ps))))) := by kernel_rfl
theorem p76_0 (kn kst ka kc kl kq kt : Int) (ks : List Int) (ps : List Rec) (ms : List Int) (dl cn : Bool) (now : Int) (post : AV → Option AV → Prop) (hin : InRL [.agg [.int .i64 kn, .int .i64 kst, .int .u32 ka, .int .i64 kc, .int .i64 kl, .ints false .u8 ks, .int .i64 kq, .int .i64 kt], .agg [.ownf 1000, .bool dl, .ints false .u8 ms, .bool cn], .int .i64 now]) (hie : InRO (some (.linr 38 0 ps))) (h : chk (decide (ps.length ≤ 100000)) (post (.tup [(handleL ⟨kn, kst, ka, kc, kl, ks, kq, kt⟩ ⟨ps, dl, ms, cn⟩ now).1.V, (handleL ⟨kn, kst, ka, kc, kl, ks, kq, kt⟩ ⟨ps, dl, ms, cn⟩ now).2.E]) (some (handleL ⟨kn, kst, ka, kc, kl, ks, kq, kt⟩ ⟨ps, dl, ms, cn⟩ now).2.M))) : Ok (runF c76 pm76 Proofs.Try.f76 [.agg [.int .i64 kn, .int .i64 kst, .int .u32 ka, .int .i64 kc, .int .i64 kl, .ints false .u8 ks, .int .i64 kq, .int .i64 kt], .agg [.ownf 1000, .bool dl, .ints false .u8 ms, .bool cn], .int .i64 now] (some (.linr 38 0 ps)) (post)) := by
  refine ⟨?_⟩
  rw [t76_0]
  obtain ⟨h1, h2⟩ := chk_iff.1 h
  unfold handleL at h2
  refine br_dec (fun hc => ?_) (fun hc => ?_)
  · rw [if_pos hc] at h2
    exact h2
  · rw [if_neg hc] at h2
    refine br_ne (fun h3 => chk_of h1 ?_) (fun h3 => ?_)
    · rw [if_pos h3] at h2
      exact h2
    · rw [if_neg (fun hh => hh h3)] at h2
      exact h2
theorem k76 : Keeps Proofs.Try.prog 76 S76 := by
  refine ⟨?_, Proofs.Try.f76, by kernel_rfl, by kernel_rfl, by kernel_rfl⟩
  intro args e post h
  unfold S76 at h
  split at h
  · refine Spec.inR fun hin hie => fun_ok' (c := c76) gamL_ok (l := u76) a76 rfl mixed_ok (fn := Proofs.Try.f76) (show Proofs.Try.prog.funcs[76]? = some Proofs.Try.f76 by kernel_rfl) (by kernel_rfl) (ls := []) rfl (.inl rfl) trivial (pm := pm76) (by simp [c76]) (by rintro ⟨t, l, h⟩; cases h) ?_
    exact p76_0 _ _ _ _ _ _ _ _ _ _ _ _ _ _ hin hie h
  · exact h.elim
def pm79 : Pm := ⟨[lkS, .s, ouS], .no, [lkS, ouS]⟩
def u79 : List (Nat × Tr) := [(59, S59), (75, S75)]
theorem a79 : AllKeep Proofs.Try.prog u79 := ⟨k59, k75, trivial⟩

def c79 : Cfg := { n := 40, Γ := GamL, C := ofL u79, pm := pmL [(59, pm59), (75, pm75)], plan := planB79, L := lpL [], unroll := nmL [], keep := kpL [] }
def S79 : Tr
  | [.agg [.int .i64 kn, .int .i64 kst, .int .u32 ka, .int .i64 kc, .int .i64 kl, .ints false .u8 ks, .int .i64 kq, .int .i64 kt], .int .i64 now, .agg [.rs false 0 ps, .bool dl, .ints false .u8 ms, .bool cn]], none, post => chk (decide (ps.length ≤ 100000)) (post (.tup [(handleR ⟨kn, kst, ka, kc, kl, ks, kq, kt⟩ ⟨ps, dl, ms, cn⟩ now).1.V, (handleR ⟨kn, kst, ka, kc, kl, ks, kq, kt⟩ ⟨ps, dl, ms, cn⟩ now).2.V]) none)
  | _, _, _ => False
theorem t79_0 (kn kst ka kc kl kq kt : Int) (ks : List Int) (ps : List Rec) (ms : List Int) (dl cn : Bool) (now : Int) (post : AV → Option AV → Prop) : runF c79 pm79 Proofs.Try.f79 [.agg [.int .i64 kn, .int .i64 kst, .int .u32 ka, .int .i64 kc, .int .i64 kl, .ints false .u8 ks, .int .i64 kq, .int .i64 kt], .int .i64 now, .agg [.rs false 0 ps, .bool dl, .ints false .u8 ms, .bool cn]] none post = (br (decide (@Nat.cast Int _ ks.length < kl))
     (post
     (AV.tup
     [AV.agg
     [AV.int IntKind.i64 kn, AV.int IntKind.i64 kst, AV.int IntKind.u32 ka, AV.int IntKind.i64 kc,
     AV.int IntKind.i64 kl, AV.ints false IntKind.u8 ks, AV.int IntKind.i64 kq, AV.int IntKind.i64 kt],
     AV.agg [AV.rs false (0 : Nat) ps, AV.bool dl, AV.ints false IntKind.u8 ms, AV.bool cn]])
     none)
     (br (kc == (1 : Int))
     (chk (decide (ps.length ≤ (100000 : Nat)))
     (post
     (AV.tup
     [AV.agg
     [AV.int IntKind.i64 (idleL (Lk.mk kn kst ka kc kl ks kq kt)).n,
     AV.int IntKind.i64 (idleL (Lk.mk kn kst ka kc kl ks kq kt)).st,
     AV.int IntKind.u32 (idleL (Lk.mk kn kst ka kc kl ks kq kt)).a,
     AV.int IntKind.i64 (idleL (Lk.mk kn kst ka kc kl ks kq kt)).cmd,
     AV.int IntKind.i64 (idleL (Lk.mk kn kst ka kc kl ks kq kt)).len,
     AV.ints false IntKind.u8 (idleL (Lk.mk kn kst ka kc kl ks kq kt)).s,
     AV.int IntKind.i64 (idleL (Lk.mk kn kst ka kc kl ks kq kt)).q,
     AV.int IntKind.i64 (idleL (Lk.mk kn kst ka kc kl ks kq kt)).t],
     AV.agg
     [AV.rs false (0 : Nat) (replyO (Ou.mk ps dl ms cn) ka (1 : Int) ks).ps,
     AV.bool (replyO (Ou.mk ps dl ms cn) ka (1 : Int) ks).dl,
     AV.ints false IntKind.u8 (replyO (Ou.mk ps dl ms cn) ka (1 : Int) ks).ms,
     AV.bool (replyO (Ou.mk ps dl ms cn) ka (1 : Int) ks).cn]])
     none))
     (post
     (AV.tup
     [AV.agg
     [AV.int IntKind.i64 kn, AV.int IntKind.i64 (2 : Int), AV.int IntKind.u32 ka, AV.int IntKind.i64 kc,
     AV.int IntKind.i64 (0 : Int), AV.ints false IntKind.u8 [], AV.int IntKind.i64 (0 : Int),
     AV.int IntKind.i64 now],
     AV.agg [AV.rs false (0 : Nat) ps, AV.bool true, AV.ints false IntKind.u8 ks, AV.bool cn]])
     none))) := by kernel_rfl
theorem p79_0 (kn kst ka kc kl kq kt : Int) (ks : List Int) (ps : List Rec) (ms : List Int) (dl cn : Bool) (now : Int) (post : AV → Option AV → Prop) (hin : InRL [.agg [.int .i64 kn, .int .i64 kst, .int .u32 ka, .int .i64 kc, .int .i64 kl, .ints false .u8 ks, .int .i64 kq, .int .i64 kt], .int .i64 now, .agg [.rs false 0 ps, .bool dl, .ints false .u8 ms, .bool cn]]) (hie : InRO none) (h : chk (decide (ps.length ≤ 100000)) (post (.tup [(handleR ⟨kn, kst, ka, kc, kl, ks, kq, kt⟩ ⟨ps, dl, ms, cn⟩ now).1.V, (handleR ⟨kn, kst, ka, kc, kl, ks, kq, kt⟩ ⟨ps, dl, ms, cn⟩ now).2.V]) none)) : Ok (runF c79 pm79 Proofs.Try.f79 [.agg [.int .i64 kn, .int .i64 kst, .int .u32 ka, .int .i64 kc, .int .i64 kl, .ints false .u8 ks, .int .i64 kq, .int .i64 kt], .int .i64 now, .agg [.rs false 0 ps, .bool dl, .ints false .u8 ms, .bool cn]] none (post)) := by
  refine ⟨?_⟩
  rw [t79_0]
  obtain ⟨h1, h2⟩ := chk_iff.1 h
  unfold handleR at h2
  refine br_dec (fun hc => ?_) (fun hc => ?_)
  · rw [if_pos hc] at h2
    exact h2
  · rw [if_neg hc] at h2
    refine br_eq (fun h3 => chk_of h1 ?_) (fun h3 => ?_)
    · rw [if_pos h3] at h2
      exact h2
    · rw [if_neg h3] at h2
      exact h2
theorem k79 : Keeps Proofs.Try.prog 79 S79 := by
  refine ⟨?_, Proofs.Try.f79, by kernel_rfl, by kernel_rfl, by kernel_rfl⟩
  intro args e post h
  unfold S79 at h
  split at h
  · refine Spec.inR fun hin hie => fun_ok' (c := c79) gamL_ok (l := u79) a79 rfl mixed_ok (fn := Proofs.Try.f79) (show Proofs.Try.prog.funcs[79]? = some Proofs.Try.f79 by kernel_rfl) (by kernel_rfl) (ls := []) rfl (.inl rfl) trivial (pm := pm79) (by simp [c79]) (by rintro ⟨t, l, h⟩; cases h) ?_
    exact p79_0 _ _ _ _ _ _ _ _ _ _ _ _ _ _ hin hie h
  · exact h.elim
def pm40 : Pm := ⟨[lkS, .s], .no, [lkS, ouR]⟩
def u40 : List (Nat × Tr) := [(58, S58), (60, S60)]
theorem a40 : AllKeep Proofs.Try.prog u40 := ⟨k58, k60, trivial⟩

def c40 : Cfg := { n := 32, Γ := GamL, C := ofL u40, pm := pmL [(58, pm58), (60, pm60)], plan := planB40, L := lpL [], unroll := nmL [], keep := kpL [] }
def S40 : Tr
  | [.agg [.int .i64 kn, .int .i64 kst, .int .u32 ka, .int .i64 kc, .int .i64 kl, .ints false .u8 ks, .int .i64 kq, .int .i64 kt], .int .i64 now], none, post => post (.tup [(tickL ⟨kn, kst, ka, kc, kl, ks, kq, kt⟩ now).1.V, (tickL ⟨kn, kst, ka, kc, kl, ks, kq, kt⟩ now).2.E]) (some (tickL ⟨kn, kst, ka, kc, kl, ks, kq, kt⟩ now).2.M)
  | _, _, _ => False
theorem t40_0 (kn kst ka kc kl kq kt : Int) (ks : List Int) (now : Int) (post : AV → Option AV → Prop) : runF c40 pm40 Proofs.Try.f40 [.agg [.int .i64 kn, .int .i64 kst, .int .u32 ka, .int .i64 kc, .int .i64 kl, .ints false .u8 ks, .int .i64 kq, .int .i64 kt], .int .i64 now] none post = (br (decide (now < (0 : Int)))
     (post
     (AV.tup
     [AV.agg
     [AV.int IntKind.i64 kn, AV.int IntKind.i64 kst, AV.int IntKind.u32 ka, AV.int IntKind.i64 kc,
     AV.int IntKind.i64 kl, AV.ints false IntKind.u8 ks, AV.int IntKind.i64 kq, AV.int IntKind.i64 kt],
     AV.agg [AV.ownf (1000 : Nat), AV.bool false, AV.ints false IntKind.u8 [], AV.bool false]])
     (some (AV.linr (38 : Nat) (0 : Nat) [])))
     (br (decide (now > (1099511627776 : Int)))
     (post
     (AV.tup
     [AV.agg
     [AV.int IntKind.i64 kn, AV.int IntKind.i64 kst, AV.int IntKind.u32 ka, AV.int IntKind.i64 kc,
     AV.int IntKind.i64 kl, AV.ints false IntKind.u8 ks, AV.int IntKind.i64 kq, AV.int IntKind.i64 kt],
     AV.agg [AV.ownf (1000 : Nat), AV.bool false, AV.ints false IntKind.u8 [], AV.bool false]])
     (some (AV.linr (38 : Nat) (0 : Nat) [])))
     (br (kst != (1 : Int))
     (post
     (AV.tup
     [AV.agg
     [AV.int IntKind.i64 kn, AV.int IntKind.i64 kst, AV.int IntKind.u32 ka, AV.int IntKind.i64 kc,
     AV.int IntKind.i64 kl, AV.ints false IntKind.u8 ks, AV.int IntKind.i64 kq, AV.int IntKind.i64 kt],
     AV.agg [AV.ownf (1000 : Nat), AV.bool false, AV.ints false IntKind.u8 [], AV.bool false]])
     (some (AV.linr (38 : Nat) (0 : Nat) [])))
     (br (decide (kt ≥ IntKind.i64.wrap (now - (20 : Int))))
     (post
     (AV.tup
     [AV.agg
     [AV.int IntKind.i64 kn, AV.int IntKind.i64 kst, AV.int IntKind.u32 ka, AV.int IntKind.i64 kc,
     AV.int IntKind.i64 kl, AV.ints false IntKind.u8 ks, AV.int IntKind.i64 kq, AV.int IntKind.i64 kt],
     AV.agg [AV.ownf (1000 : Nat), AV.bool false, AV.ints false IntKind.u8 [], AV.bool false]])
     (some (AV.linr (38 : Nat) (0 : Nat) [])))
     (post
     (AV.tup
     [AV.agg
     [AV.int IntKind.i64 (idleL (Lk.mk kn kst ka kc kl ks kq kt)).n,
     AV.int IntKind.i64 (idleL (Lk.mk kn kst ka kc kl ks kq kt)).st,
     AV.int IntKind.u32 (idleL (Lk.mk kn kst ka kc kl ks kq kt)).a,
     AV.int IntKind.i64 (idleL (Lk.mk kn kst ka kc kl ks kq kt)).cmd,
     AV.int IntKind.i64 (idleL (Lk.mk kn kst ka kc kl ks kq kt)).len,
     AV.ints false IntKind.u8 (idleL (Lk.mk kn kst ka kc kl ks kq kt)).s,
     AV.int IntKind.i64 (idleL (Lk.mk kn kst ka kc kl ks kq kt)).q,
     AV.int IntKind.i64 (idleL (Lk.mk kn kst ka kc kl ks kq kt)).t],
     AV.agg
     [AV.ownf (1000 : Nat), AV.bool (refuseO (Ou.mk [] false [] false) ka (19 : Int)).dl,
     AV.ints false IntKind.u8 (refuseO (Ou.mk [] false [] false) ka (19 : Int)).ms,
     AV.bool (refuseO (Ou.mk [] false [] false) ka (19 : Int)).cn]])
     (some (AV.linr (38 : Nat) (0 : Nat) (refuseO (Ou.mk [] false [] false) ka (19 : Int)).ps))))))) := by kernel_rfl
theorem p40_0 (kn kst ka kc kl kq kt : Int) (ks : List Int) (now : Int) (post : AV → Option AV → Prop) (hin : InRL [.agg [.int .i64 kn, .int .i64 kst, .int .u32 ka, .int .i64 kc, .int .i64 kl, .ints false .u8 ks, .int .i64 kq, .int .i64 kt], .int .i64 now]) (hie : InRO none) (h : post (.tup [(tickL ⟨kn, kst, ka, kc, kl, ks, kq, kt⟩ now).1.V, (tickL ⟨kn, kst, ka, kc, kl, ks, kq, kt⟩ now).2.E]) (some (tickL ⟨kn, kst, ka, kc, kl, ks, kq, kt⟩ now).2.M)) : Ok (runF c40 pm40 Proofs.Try.f40 [.agg [.int .i64 kn, .int .i64 kst, .int .u32 ka, .int .i64 kc, .int .i64 kl, .ints false .u8 ks, .int .i64 kq, .int .i64 kt], .int .i64 now] none (post)) := by
  refine ⟨?_⟩
  rw [t40_0]
  unfold tickL at h
  refine br_dec (fun hc => ?_) (fun hc => br_dec (fun hd => ?_) (fun hd => br_ne (fun he => ?_) (fun he => br_dec (fun hf => ?_) (fun hf => ?_))))
  · rw [if_pos (.inl hc)] at h
    exact h
  · rw [if_pos (.inr (.inl hd))] at h
    exact h
  · rw [if_pos (.inr (.inr (.inl he)))] at h
    exact h
  · rw [if_pos (.inr (.inr (.inr hf)))] at h
    exact h
  · rw [if_neg (fun hh => by rcases hh with hh | hh | hh | hh; exact hc hh; exact hd hh; exact hh he; exact hf hh)] at h
    exact h
theorem k40 : Keeps Proofs.Try.prog 40 S40 := by
  refine ⟨?_, Proofs.Try.f40, by kernel_rfl, by kernel_rfl, by kernel_rfl⟩
  intro args e post h
  unfold S40 at h
  split at h
  · refine Spec.inR fun hin hie => fun_ok' (c := c40) gamL_ok (l := u40) a40 rfl mixed_ok (fn := Proofs.Try.f40) (show Proofs.Try.prog.funcs[40]? = some Proofs.Try.f40 by kernel_rfl) (by kernel_rfl) (ls := []) rfl (.inl rfl) trivial (pm := pm40) (by simp [c40]) (by rintro ⟨t, l, h⟩; cases h) ?_
    exact p40_0 _ _ _ _ _ _ _ _ _ _ hin hie h
  · exact h.elim
def pm41 : Pm := ⟨[lkS, .s], .no, [lkS, ouS]⟩
def u41 : List (Nat × Tr) := [(59, S59), (61, S61)]
theorem a41 : AllKeep Proofs.Try.prog u41 := ⟨k59, k61, trivial⟩

def c41 : Cfg := { n := 32, Γ := GamL, C := ofL u41, pm := pmL [(59, pm59), (61, pm61)], plan := planB41, L := lpL [], unroll := nmL [], keep := kpL [] }
def S41 : Tr
  | [.agg [.int .i64 kn, .int .i64 kst, .int .u32 ka, .int .i64 kc, .int .i64 kl, .ints false .u8 ks, .int .i64 kq, .int .i64 kt], .int .i64 now], none, post => post (.tup [(tickR ⟨kn, kst, ka, kc, kl, ks, kq, kt⟩ now).1.V, (tickR ⟨kn, kst, ka, kc, kl, ks, kq, kt⟩ now).2.V]) none
  | _, _, _ => False
theorem t41_0 (kn kst ka kc kl kq kt : Int) (ks : List Int) (now : Int) (post : AV → Option AV → Prop) : runF c41 pm41 Proofs.Try.f41 [.agg [.int .i64 kn, .int .i64 kst, .int .u32 ka, .int .i64 kc, .int .i64 kl, .ints false .u8 ks, .int .i64 kq, .int .i64 kt], .int .i64 now] none post = (br (decide (now < (0 : Int)))
     (post
     (AV.tup
     [AV.agg
     [AV.int IntKind.i64 kn, AV.int IntKind.i64 kst, AV.int IntKind.u32 ka, AV.int IntKind.i64 kc,
     AV.int IntKind.i64 kl, AV.ints false IntKind.u8 ks, AV.int IntKind.i64 kq, AV.int IntKind.i64 kt],
     AV.agg [AV.rs false (0 : Nat) [], AV.bool false, AV.ints false IntKind.u8 [], AV.bool false]])
     none)
     (br (decide (now > (1099511627776 : Int)))
     (post
     (AV.tup
     [AV.agg
     [AV.int IntKind.i64 kn, AV.int IntKind.i64 kst, AV.int IntKind.u32 ka, AV.int IntKind.i64 kc,
     AV.int IntKind.i64 kl, AV.ints false IntKind.u8 ks, AV.int IntKind.i64 kq, AV.int IntKind.i64 kt],
     AV.agg [AV.rs false (0 : Nat) [], AV.bool false, AV.ints false IntKind.u8 [], AV.bool false]])
     none)
     (br (kst != (1 : Int))
     (post
     (AV.tup
     [AV.agg
     [AV.int IntKind.i64 kn, AV.int IntKind.i64 kst, AV.int IntKind.u32 ka, AV.int IntKind.i64 kc,
     AV.int IntKind.i64 kl, AV.ints false IntKind.u8 ks, AV.int IntKind.i64 kq, AV.int IntKind.i64 kt],
     AV.agg [AV.rs false (0 : Nat) [], AV.bool false, AV.ints false IntKind.u8 [], AV.bool false]])
     none)
     (br (decide (IntKind.i64.wrap (now - kt) ≤ (20 : Int)))
     (post
     (AV.tup
     [AV.agg
     [AV.int IntKind.i64 kn, AV.int IntKind.i64 kst, AV.int IntKind.u32 ka, AV.int IntKind.i64 kc,
     AV.int IntKind.i64 kl, AV.ints false IntKind.u8 ks, AV.int IntKind.i64 kq, AV.int IntKind.i64 kt],
     AV.agg [AV.rs false (0 : Nat) [], AV.bool false, AV.ints false IntKind.u8 [], AV.bool false]])
     none)
     (post
     (AV.tup
     [AV.agg
     [AV.int IntKind.i64 (idleL (Lk.mk kn kst ka kc kl ks kq kt)).n,
     AV.int IntKind.i64 (idleL (Lk.mk kn kst ka kc kl ks kq kt)).st,
     AV.int IntKind.u32 (idleL (Lk.mk kn kst ka kc kl ks kq kt)).a,
     AV.int IntKind.i64 (idleL (Lk.mk kn kst ka kc kl ks kq kt)).cmd,
     AV.int IntKind.i64 (idleL (Lk.mk kn kst ka kc kl ks kq kt)).len,
     AV.ints false IntKind.u8 (idleL (Lk.mk kn kst ka kc kl ks kq kt)).s,
     AV.int IntKind.i64 (idleL (Lk.mk kn kst ka kc kl ks kq kt)).q,
     AV.int IntKind.i64 (idleL (Lk.mk kn kst ka kc kl ks kq kt)).t],
     AV.agg
     [AV.rs false (0 : Nat) (refuseO (Ou.mk [] false [] false) ka (19 : Int)).ps,
     AV.bool (refuseO (Ou.mk [] false [] false) ka (19 : Int)).dl,
     AV.ints false IntKind.u8 (refuseO (Ou.mk [] false [] false) ka (19 : Int)).ms,
     AV.bool (refuseO (Ou.mk [] false [] false) ka (19 : Int)).cn]])
     none))))) := by kernel_rfl
theorem p41_0 (kn kst ka kc kl kq kt : Int) (ks : List Int) (now : Int) (post : AV → Option AV → Prop) (hin : InRL [.agg [.int .i64 kn, .int .i64 kst, .int .u32 ka, .int .i64 kc, .int .i64 kl, .ints false .u8 ks, .int .i64 kq, .int .i64 kt], .int .i64 now]) (hie : InRO none) (h : post (.tup [(tickR ⟨kn, kst, ka, kc, kl, ks, kq, kt⟩ now).1.V, (tickR ⟨kn, kst, ka, kc, kl, ks, kq, kt⟩ now).2.V]) none) : Ok (runF c41 pm41 Proofs.Try.f41 [.agg [.int .i64 kn, .int .i64 kst, .int .u32 ka, .int .i64 kc, .int .i64 kl, .ints false .u8 ks, .int .i64 kq, .int .i64 kt], .int .i64 now] none (post)) := by
  refine ⟨?_⟩
  rw [t41_0]
  unfold tickR at h
  refine br_dec (fun hc => ?_) (fun hc => br_dec (fun hd => ?_) (fun hd => br_ne (fun he => ?_) (fun he => br_dec (fun hf => ?_) (fun hf => ?_))))
  · rw [if_pos (.inl hc)] at h
    exact h
  · rw [if_pos (.inr (.inl hd))] at h
    exact h
  · rw [if_pos (.inr (.inr (.inl he)))] at h
    exact h
  · rw [if_pos (.inr (.inr (.inr hf)))] at h
    exact h
  · rw [if_neg (fun hh => by rcases hh with hh | hh | hh | hh; exact hc hh; exact hd hh; exact hh he; exact hf hh)] at h
    exact h
theorem k41 : Keeps Proofs.Try.prog 41 S41 := by
  refine ⟨?_, Proofs.Try.f41, by kernel_rfl, by kernel_rfl, by kernel_rfl⟩
  intro args e post h
  unfold S41 at h
  split at h
  · refine Spec.inR fun hin hie => fun_ok' (c := c41) gamL_ok (l := u41) a41 rfl mixed_ok (fn := Proofs.Try.f41) (show Proofs.Try.prog.funcs[41]? = some Proofs.Try.f41 by kernel_rfl) (by kernel_rfl) (ls := []) rfl (.inl rfl) trivial (pm := pm41) (by simp [c41]) (by rintro ⟨t, l, h⟩; cases h) ?_
    exact p41_0 _ _ _ _ _ _ _ _ _ _ hin hie h
  · exact h.elim
def pm38 : Pm := ⟨[lkS, .i .u8], .no, [lkS, .r 0, .s]⟩
def u38 : List (Nat × Tr) := [(23, S23), (58, S58)]
theorem a38 : AllKeep Proofs.Try.prog u38 := ⟨k23, k58, trivial⟩

def c38 : Cfg := { n := 27, Γ := GamL, C := ofL u38, pm := pmL [(23, pm23), (58, pm58)], plan := noP, L := lpL [], unroll := nmL [], keep := kpL [] }
def S38 : Tr
  | [.agg [.int .i64 kn, .int .i64 kst, .int .u32 ka, .int .i64 kc, .int .i64 kl, .ints false .u8 ks, .int .i64 kq, .int .i64 kt], .ints false .u8 x], none, post => post (.tup [(answL ⟨kn, kst, ka, kc, kl, ks, kq, kt⟩ x).1.V, .rs false 0 (answL ⟨kn, kst, ka, kc, kl, ks, kq, kt⟩ x).2.1, .int .i64 (answL ⟨kn, kst, ka, kc, kl, ks, kq, kt⟩ x).2.2]) none
  | _, _, _ => False
theorem t38_0 (kn kst ka kc kl kq kt : Int) (ks : List Int) (x : List Int) (post : AV → Option AV → Prop) : runF c38 pm38 Proofs.Try.f38 [.agg [.int .i64 kn, .int .i64 kst, .int .u32 ka, .int .i64 kc, .int .i64 kl, .ints false .u8 ks, .int .i64 kq, .int .i64 kt], .ints false .u8 x] none post = (br (kst != (2 : Int))
     (post
     (AV.tup
     [AV.agg
     [AV.int IntKind.i64 kn, AV.int IntKind.i64 kst, AV.int IntKind.u32 ka, AV.int IntKind.i64 kc,
     AV.int IntKind.i64 kl, AV.ints false IntKind.u8 ks, AV.int IntKind.i64 kq, AV.int IntKind.i64 kt],
     AV.rs false (0 : Nat) [], AV.int IntKind.i64 (18 : Int)])
     none)
     (br (splitE (3 : Int) x.length != (0 : Int))
     (post
     (AV.tup
     [AV.agg
     [AV.int IntKind.i64 kn, AV.int IntKind.i64 kst, AV.int IntKind.u32 ka, AV.int IntKind.i64 kc,
     AV.int IntKind.i64 kl, AV.ints false IntKind.u8 ks, AV.int IntKind.i64 kq, AV.int IntKind.i64 kt],
     AV.rs false (0 : Nat) [], AV.int IntKind.i64 (splitE (3 : Int) x.length)])
     none)
     (post
     (AV.tup
     [AV.agg
     [AV.int IntKind.i64 (idleL (Lk.mk kn kst ka kc kl ks kq kt)).n,
     AV.int IntKind.i64 (idleL (Lk.mk kn kst ka kc kl ks kq kt)).st,
     AV.int IntKind.u32 (idleL (Lk.mk kn kst ka kc kl ks kq kt)).a,
     AV.int IntKind.i64 (idleL (Lk.mk kn kst ka kc kl ks kq kt)).cmd,
     AV.int IntKind.i64 (idleL (Lk.mk kn kst ka kc kl ks kq kt)).len,
     AV.ints false IntKind.u8 (idleL (Lk.mk kn kst ka kc kl ks kq kt)).s,
     AV.int IntKind.i64 (idleL (Lk.mk kn kst ka kc kl ks kq kt)).q,
     AV.int IntKind.i64 (idleL (Lk.mk kn kst ka kc kl ks kq kt)).t],
     AV.rs false (0 : Nat) (splitL ka (3 : Int) x), AV.int IntKind.i64 (0 : Int)])
     none))) := by kernel_rfl
theorem p38_0 (kn kst ka kc kl kq kt : Int) (ks : List Int) (x : List Int) (post : AV → Option AV → Prop) (hin : InRL [.agg [.int .i64 kn, .int .i64 kst, .int .u32 ka, .int .i64 kc, .int .i64 kl, .ints false .u8 ks, .int .i64 kq, .int .i64 kt], .ints false .u8 x]) (hie : InRO none) (h : post (.tup [(answL ⟨kn, kst, ka, kc, kl, ks, kq, kt⟩ x).1.V, .rs false 0 (answL ⟨kn, kst, ka, kc, kl, ks, kq, kt⟩ x).2.1, .int .i64 (answL ⟨kn, kst, ka, kc, kl, ks, kq, kt⟩ x).2.2]) none) : Ok (runF c38 pm38 Proofs.Try.f38 [.agg [.int .i64 kn, .int .i64 kst, .int .u32 ka, .int .i64 kc, .int .i64 kl, .ints false .u8 ks, .int .i64 kq, .int .i64 kt], .ints false .u8 x] none (post)) := by
  refine ⟨?_⟩
  rw [t38_0]
  unfold answL at h
  refine br_ne (fun hc => ?_) (fun hc => br_ne (fun hd => ?_) (fun hd => ?_))
  · rw [if_pos hc] at h
    exact h
  · rw [if_neg (fun hh => hh hc), if_pos hd] at h
    exact h
  · rw [if_neg (fun hh => hh hc), if_neg (fun hh => hh hd)] at h
    exact h
theorem k38 : Keeps Proofs.Try.prog 38 S38 := by
  refine ⟨?_, Proofs.Try.f38, by kernel_rfl, by kernel_rfl, by kernel_rfl⟩
  intro args e post h
  unfold S38 at h
  split at h
  · refine Spec.inR fun hin hie => fun_ok' (c := c38) gamL_ok (l := u38) a38 rfl mixed_ok (fn := Proofs.Try.f38) (show Proofs.Try.prog.funcs[38]? = some Proofs.Try.f38 by kernel_rfl) (by kernel_rfl) (ls := []) rfl (.inl rfl) trivial (pm := pm38) (by simp [c38]) (by rintro ⟨t, l, h⟩; cases h) ?_
    exact p38_0 _ _ _ _ _ _ _ _ _ _ hin hie h
  · exact h.elim
def pm39 : Pm := ⟨[lkS, .i .u8], .no, [lkS, .r 0, .s]⟩
def u39 : List (Nat × Tr) := [(24, S24), (59, S59)]
theorem a39 : AllKeep Proofs.Try.prog u39 := ⟨k24, k59, trivial⟩

def c39 : Cfg := { n := 27, Γ := GamL, C := ofL u39, pm := pmL [(24, pm24), (59, pm59)], plan := noP, L := lpL [], unroll := nmL [], keep := kpL [] }
def S39 : Tr
  | [.agg [.int .i64 kn, .int .i64 kst, .int .u32 ka, .int .i64 kc, .int .i64 kl, .ints false .u8 ks, .int .i64 kq, .int .i64 kt], .ints false .u8 x], none, post => post (.tup [(answL ⟨kn, kst, ka, kc, kl, ks, kq, kt⟩ x).1.V, .rs false 0 (answL ⟨kn, kst, ka, kc, kl, ks, kq, kt⟩ x).2.1, .int .i64 (answL ⟨kn, kst, ka, kc, kl, ks, kq, kt⟩ x).2.2]) none
  | _, _, _ => False
theorem t39_0 (kn kst ka kc kl kq kt : Int) (ks : List Int) (x : List Int) (post : AV → Option AV → Prop) : runF c39 pm39 Proofs.Try.f39 [.agg [.int .i64 kn, .int .i64 kst, .int .u32 ka, .int .i64 kc, .int .i64 kl, .ints false .u8 ks, .int .i64 kq, .int .i64 kt], .ints false .u8 x] none post = (br (kst != (2 : Int))
     (post
     (AV.tup
     [AV.agg
     [AV.int IntKind.i64 kn, AV.int IntKind.i64 kst, AV.int IntKind.u32 ka, AV.int IntKind.i64 kc,
     AV.int IntKind.i64 kl, AV.ints false IntKind.u8 ks, AV.int IntKind.i64 kq, AV.int IntKind.i64 kt],
     AV.rs false (0 : Nat) [], AV.int IntKind.i64 (18 : Int)])
     none)
     (br (splitE (3 : Int) x.length != (0 : Int))
     (post
     (AV.tup
     [AV.agg
     [AV.int IntKind.i64 kn, AV.int IntKind.i64 kst, AV.int IntKind.u32 ka, AV.int IntKind.i64 kc,
     AV.int IntKind.i64 kl, AV.ints false IntKind.u8 ks, AV.int IntKind.i64 kq, AV.int IntKind.i64 kt],
     AV.rs false (0 : Nat) [], AV.int IntKind.i64 (splitE (3 : Int) x.length)])
     none)
     (post
     (AV.tup
     [AV.agg
     [AV.int IntKind.i64 (idleL (Lk.mk kn kst ka kc kl ks kq kt)).n,
     AV.int IntKind.i64 (idleL (Lk.mk kn kst ka kc kl ks kq kt)).st,
     AV.int IntKind.u32 (idleL (Lk.mk kn kst ka kc kl ks kq kt)).a,
     AV.int IntKind.i64 (idleL (Lk.mk kn kst ka kc kl ks kq kt)).cmd,
     AV.int IntKind.i64 (idleL (Lk.mk kn kst ka kc kl ks kq kt)).len,
     AV.ints false IntKind.u8 (idleL (Lk.mk kn kst ka kc kl ks kq kt)).s,
     AV.int IntKind.i64 (idleL (Lk.mk kn kst ka kc kl ks kq kt)).q,
     AV.int IntKind.i64 (idleL (Lk.mk kn kst ka kc kl ks kq kt)).t],
     AV.rs false (0 : Nat) (splitL ka (3 : Int) x), AV.int IntKind.i64 (0 : Int)])
     none))) := by kernel_rfl
theorem p39_0 (kn kst ka kc kl kq kt : Int) (ks : List Int) (x : List Int) (post : AV → Option AV → Prop) (hin : InRL [.agg [.int .i64 kn, .int .i64 kst, .int .u32 ka, .int .i64 kc, .int .i64 kl, .ints false .u8 ks, .int .i64 kq, .int .i64 kt], .ints false .u8 x]) (hie : InRO none) (h : post (.tup [(answL ⟨kn, kst, ka, kc, kl, ks, kq, kt⟩ x).1.V, .rs false 0 (answL ⟨kn, kst, ka, kc, kl, ks, kq, kt⟩ x).2.1, .int .i64 (answL ⟨kn, kst, ka, kc, kl, ks, kq, kt⟩ x).2.2]) none) : Ok (runF c39 pm39 Proofs.Try.f39 [.agg [.int .i64 kn, .int .i64 kst, .int .u32 ka, .int .i64 kc, .int .i64 kl, .ints false .u8 ks, .int .i64 kq, .int .i64 kt], .ints false .u8 x] none (post)) := by
  refine ⟨?_⟩
  rw [t39_0]
  unfold answL at h
  refine br_ne (fun hc => ?_) (fun hc => br_ne (fun hd => ?_) (fun hd => ?_))
  · rw [if_pos hc] at h
    exact h
  · rw [if_neg (fun hh => hh hc), if_pos hd] at h
    exact h
  · rw [if_neg (fun hh => hh hc), if_neg (fun hh => hh hd)] at h
    exact h
theorem k39 : Keeps Proofs.Try.prog 39 S39 := by
  refine ⟨?_, Proofs.Try.f39, by kernel_rfl, by kernel_rfl, by kernel_rfl⟩
  intro args e post h
  unfold S39 at h
  split at h
  · refine Spec.inR fun hin hie => fun_ok' (c := c39) gamL_ok (l := u39) a39 rfl mixed_ok (fn := Proofs.Try.f39) (show Proofs.Try.prog.funcs[39]? = some Proofs.Try.f39 by kernel_rfl) (by kernel_rfl) (ls := []) rfl (.inl rfl) trivial (pm := pm39) (by simp [c39]) (by rintro ⟨t, l, h⟩; cases h) ?_
    exact p39_0 _ _ _ _ _ _ _ _ _ _ hin hie h
  · exact h.elim
def pm66 : Pm := ⟨[lkS, ouP, .s], .ln 1 0 (.lr 38 0), [lkS, ouR]⟩
def u66 : List (Nat × Tr) := [(58, S58), (78, S78)]
theorem a66 : AllKeep Proofs.Try.prog u66 := ⟨k58, k78, trivial⟩

def c66 : Cfg := { n := 19, Γ := GamL, C := ofL u66, pm := pmL [(58, pm58), (78, pm78)], plan := planB66, L := lpL [], unroll := nmL [], keep := kpL [] }
def S66 : Tr
  | [.agg [.int .i64 kn, .int .i64 kst, .int .u32 ka, .int .i64 kc, .int .i64 kl, .ints false .u8 ks, .int .i64 kq, .int .i64 kt], .agg [.ownf 1000, .bool dl, .ints false .u8 ms, .bool cn], .int .u32 ch], some (.linr 38 0 ps), post => post (.tup [(cancL ⟨kn, kst, ka, kc, kl, ks, kq, kt⟩ ⟨ps, dl, ms, cn⟩ ch).1.V, (cancL ⟨kn, kst, ka, kc, kl, ks, kq, kt⟩ ⟨ps, dl, ms, cn⟩ ch).2.E]) (some (cancL ⟨kn, kst, ka, kc, kl, ks, kq, kt⟩ ⟨ps, dl, ms, cn⟩ ch).2.M)
  | _, _, _ => False
theorem t66_0 (kn kst ka kc kl kq kt : Int) (ks : List Int) (ps : List Rec) (ms : List Int) (dl cn : Bool) (ch : Int) (post : AV → Option AV → Prop) : runF c66 pm66 Proofs.Try.f66 [.agg [.int .i64 kn, .int .i64 kst, .int .u32 ka, .int .i64 kc, .int .i64 kl, .ints false .u8 ks, .int .i64 kq, .int .i64 kt], .agg [.ownf 1000, .bool dl, .ints false .u8 ms, .bool cn], .int .u32 ch] (some (.linr 38 0 ps)) post = (br (decide (kst ≠ (0 : Int) ∧ ka = ch))
     (br (kst == (1 : Int))
     (post
     (AV.tup
     [AV.agg
     [AV.int IntKind.i64 (idleL (Lk.mk kn kst ka kc kl ks kq kt)).n,
     AV.int IntKind.i64 (idleL (Lk.mk kn kst ka kc kl ks kq kt)).st,
     AV.int IntKind.u32 (idleL (Lk.mk kn kst ka kc kl ks kq kt)).a,
     AV.int IntKind.i64 (idleL (Lk.mk kn kst ka kc kl ks kq kt)).cmd,
     AV.int IntKind.i64 (idleL (Lk.mk kn kst ka kc kl ks kq kt)).len,
     AV.ints false IntKind.u8 (idleL (Lk.mk kn kst ka kc kl ks kq kt)).s,
     AV.int IntKind.i64 (idleL (Lk.mk kn kst ka kc kl ks kq kt)).q,
     AV.int IntKind.i64 (idleL (Lk.mk kn kst ka kc kl ks kq kt)).t],
     AV.agg [AV.ownf (1000 : Nat), AV.bool dl, AV.ints false IntKind.u8 ms, AV.bool cn]])
     (some (AV.linr (38 : Nat) (0 : Nat) ps)))
     (post
     (AV.tup
     [AV.agg
     [AV.int IntKind.i64 kn, AV.int IntKind.i64 kst, AV.int IntKind.u32 ka, AV.int IntKind.i64 kc,
     AV.int IntKind.i64 kl, AV.ints false IntKind.u8 ks, AV.int IntKind.i64 kq, AV.int IntKind.i64 kt],
     AV.agg [AV.ownf (1000 : Nat), AV.bool dl, AV.ints false IntKind.u8 ms, AV.bool true]])
     (some (AV.linr (38 : Nat) (0 : Nat) ps))))
     (post
     (AV.tup
     [AV.agg
     [AV.int IntKind.i64 kn, AV.int IntKind.i64 kst, AV.int IntKind.u32 ka, AV.int IntKind.i64 kc,
     AV.int IntKind.i64 kl, AV.ints false IntKind.u8 ks, AV.int IntKind.i64 kq, AV.int IntKind.i64 kt],
     AV.agg [AV.ownf (1000 : Nat), AV.bool dl, AV.ints false IntKind.u8 ms, AV.bool cn]])
     (some (AV.linr (38 : Nat) (0 : Nat) ps)))) := by kernel_rfl
theorem p66_0 (kn kst ka kc kl kq kt : Int) (ks : List Int) (ps : List Rec) (ms : List Int) (dl cn : Bool) (ch : Int) (post : AV → Option AV → Prop) (hin : InRL [.agg [.int .i64 kn, .int .i64 kst, .int .u32 ka, .int .i64 kc, .int .i64 kl, .ints false .u8 ks, .int .i64 kq, .int .i64 kt], .agg [.ownf 1000, .bool dl, .ints false .u8 ms, .bool cn], .int .u32 ch]) (hie : InRO (some (.linr 38 0 ps))) (h : post (.tup [(cancL ⟨kn, kst, ka, kc, kl, ks, kq, kt⟩ ⟨ps, dl, ms, cn⟩ ch).1.V, (cancL ⟨kn, kst, ka, kc, kl, ks, kq, kt⟩ ⟨ps, dl, ms, cn⟩ ch).2.E]) (some (cancL ⟨kn, kst, ka, kc, kl, ks, kq, kt⟩ ⟨ps, dl, ms, cn⟩ ch).2.M)) : Ok (runF c66 pm66 Proofs.Try.f66 [.agg [.int .i64 kn, .int .i64 kst, .int .u32 ka, .int .i64 kc, .int .i64 kl, .ints false .u8 ks, .int .i64 kq, .int .i64 kt], .agg [.ownf 1000, .bool dl, .ints false .u8 ms, .bool cn], .int .u32 ch] (some (.linr 38 0 ps)) (post)) := by
  refine ⟨?_⟩
  rw [t66_0]
  unfold cancL at h
  refine br_dec (fun hc => ?_) (fun hc => ?_)
  · rw [if_pos hc] at h
    refine br_eq (fun hd => ?_) (fun hd => ?_)
    · rw [if_pos hd] at h
      exact h
    · rw [if_neg hd] at h
      exact h
  · rw [if_neg hc] at h
    exact h
theorem k66 : Keeps Proofs.Try.prog 66 S66 := by
  refine ⟨?_, Proofs.Try.f66, by kernel_rfl, by kernel_rfl, by kernel_rfl⟩
  intro args e post h
  unfold S66 at h
  split at h
  · refine Spec.inR fun hin hie => fun_ok' (c := c66) gamL_ok (l := u66) a66 rfl mixed_ok (fn := Proofs.Try.f66) (show Proofs.Try.prog.funcs[66]? = some Proofs.Try.f66 by kernel_rfl) (by kernel_rfl) (ls := []) rfl (.inl rfl) trivial (pm := pm66) (by simp [c66]) (by rintro ⟨t, l, h⟩; cases h) ?_
    exact p66_0 _ _ _ _ _ _ _ _ _ _ _ _ _ _ hin hie h
  · exact h.elim
end Go.Proofs.Ytokeanadhihlfaa.V
