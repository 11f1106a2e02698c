import Derived.Test.YtokeanadhihlfaaPlans
import Derived.Test.YtokeanadhihlfaaMB
import Derived.Test.YtokeanadhihlfaaProg
import Derived.Test.YtokeanadhihlfaaS0
import Derived.Test.YtokeanadhihlfaaS1
import Derived.Test.YtokeanadhihlfaaS2
import Derived.Test.YtokeanadhihlfaaS3
import Derived.Test.YtokeanadhihlfaaS4
import Derived.Test.YtokeanadhihlfaaB1
import Derived.Test.YtokeanadhihlfaaP4
import Derived.Test.YtokeanadhihlfaaPlansB
import Derived.KernelRfl
set_option linter.all false
set_option maxHeartbeats 1000000
namespace Go.Proofs.Ytokeanadhihlfaa.V
open Go
def lkZ : List AV := [.int .i64 0, .int .i64 0, .int .u32 0, .int .i64 0, .int .i64 0, .nil, .int .i64 0, .int .i64 0]
def ouZ : List AV := [.nil, .bool false, .nil, .bool false]
def poZ : List AV := [.int .u32 0, .int .i64 0, .int .i64 0, .nil, .int .i64 0]
def GamL : TEnv := (57, .st [(0,1),(1,1),(2,1),(3,1),(4,1),(5,1),(6,1),(7,1)] lkZ) :: (59, .st [(0,1),(1,1),(2,1),(3,1)] ouZ) :: (74, .st [(0,1),(1,1),(2,1),(3,1),(4,1)] poZ) :: Gam
theorem gamL_ok : TOk Proofs.Try.prog GamL := tB_of (by kernel_rfl)
def lkS : Shp := .a [.s, .s, .s, .s, .s, .i .u8, .s, .s]
def ouP : Shp := .a [.p, .s, .i .u8, .s]
def ouR : Shp := .a [.lr 38 0, .s, .i .u8, .s]
def ouS : Shp := .a [.r 0, .s, .i .u8, .s]
def pm58 : Pm := ⟨[lkS], .no, [lkS]⟩
def u58 : List (Nat × Tr) := []
theorem a58 : AllKeep Proofs.Try.prog u58 := trivial

def c58 : Cfg := { n := 6, Γ := GamL, C := ofL u58, pm := pmL [], plan := noP, L := lpL [], unroll := nmL [], keep := kpL [] }
def S58 : Tr
  | [.agg [.int .i64 kn, .int .i64 kst, .int .u32 ka, .int .i64 kc, .int .i64 kl, .ints false .u8 ks, .int .i64 kq, .int .i64 kt]], none, post => post (idleL ⟨kn, kst, ka, kc, kl, ks, kq, kt⟩).V none
  | _, _, _ => False
theorem t58_0 (kn kst ka kc kl kq kt : Int) (ks : List Int) (post : AV → Option AV → Prop) : runF c58 pm58 Proofs.Try.f58 [.agg [.int .i64 kn, .int .i64 kst, .int .u32 ka, .int .i64 kc, .int .i64 kl, .ints false .u8 ks, .int .i64 kq, .int .i64 kt]] none post = (post
     (AV.agg
     [AV.int IntKind.i64 kn, AV.int IntKind.i64 (0 : Int), AV.int IntKind.u32 (0 : Int), AV.int IntKind.i64 (0 : Int),
     AV.int IntKind.i64 (0 : Int), AV.ints false IntKind.u8 [], AV.int IntKind.i64 (0 : Int),
     AV.int IntKind.i64 (0 : Int)])
     none) := by kernel_rfl
theorem p58_0 (kn kst ka kc kl kq kt : Int) (ks : List Int) (post : AV → Option AV → Prop) (hin : InRL [.agg [.int .i64 kn, .int .i64 kst, .int .u32 ka, .int .i64 kc, .int .i64 kl, .ints false .u8 ks, .int .i64 kq, .int .i64 kt]]) (hie : InRO none) (h : post (idleL ⟨kn, kst, ka, kc, kl, ks, kq, kt⟩).V none) : Ok (runF c58 pm58 Proofs.Try.f58 [.agg [.int .i64 kn, .int .i64 kst, .int .u32 ka, .int .i64 kc, .int .i64 kl, .ints false .u8 ks, .int .i64 kq, .int .i64 kt]] none (post)) := by
  refine ⟨?_⟩
  rw [t58_0]
  exact h
theorem k58 : Keeps Proofs.Try.prog 58 S58 := by
  refine ⟨?_, Proofs.Try.f58, by kernel_rfl, by kernel_rfl, by kernel_rfl⟩
  intro args e post h
  unfold S58 at h
  split at h
  · refine Spec.inR fun hin hie => fun_ok' (c := c58) gamL_ok (l := u58) a58 rfl mixed_ok (fn := Proofs.Try.f58) (show Proofs.Try.prog.funcs[58]? = some Proofs.Try.f58 by kernel_rfl) (by kernel_rfl) (ls := []) rfl (.inl rfl) trivial (pm := pm58) (by simp [c58]) (by rintro ⟨t, l, h⟩; cases h) ?_
    exact p58_0 _ _ _ _ _ _ _ _ _ hin hie h
  · exact h.elim
def pm59 : Pm := ⟨[lkS], .no, [lkS]⟩
def u59 : List (Nat × Tr) := []
theorem a59 : AllKeep Proofs.Try.prog u59 := trivial

def c59 : Cfg := { n := 6, Γ := GamL, C := ofL u59, pm := pmL [], plan := noP, L := lpL [], unroll := nmL [], keep := kpL [] }
def S59 : Tr
  | [.agg [.int .i64 kn, .int .i64 kst, .int .u32 ka, .int .i64 kc, .int .i64 kl, .ints false .u8 ks, .int .i64 kq, .int .i64 kt]], none, post => post (idleL ⟨kn, kst, ka, kc, kl, ks, kq, kt⟩).V none
  | _, _, _ => False
theorem t59_0 (kn kst ka kc kl kq kt : Int) (ks : List Int) (post : AV → Option AV → Prop) : runF c59 pm59 Proofs.Try.f59 [.agg [.int .i64 kn, .int .i64 kst, .int .u32 ka, .int .i64 kc, .int .i64 kl, .ints false .u8 ks, .int .i64 kq, .int .i64 kt]] none post = (post
     (AV.agg
     [AV.int IntKind.i64 kn, AV.int IntKind.i64 (0 : Int), AV.int IntKind.u32 (0 : Int), AV.int IntKind.i64 (0 : Int),
     AV.int IntKind.i64 (0 : Int), AV.ints false IntKind.u8 [], AV.int IntKind.i64 (0 : Int),
     AV.int IntKind.i64 (0 : Int)])
     none) := by kernel_rfl
theorem p59_0 (kn kst ka kc kl kq kt : Int) (ks : List Int) (post : AV → Option AV → Prop) (hin : InRL [.agg [.int .i64 kn, .int .i64 kst, .int .u32 ka, .int .i64 kc, .int .i64 kl, .ints false .u8 ks, .int .i64 kq, .int .i64 kt]]) (hie : InRO none) (h : post (idleL ⟨kn, kst, ka, kc, kl, ks, kq, kt⟩).V none) : Ok (runF c59 pm59 Proofs.Try.f59 [.agg [.int .i64 kn, .int .i64 kst, .int .u32 ka, .int .i64 kc, .int .i64 kl, .ints false .u8 ks, .int .i64 kq, .int .i64 kt]] none (post)) := by
  refine ⟨?_⟩
  rw [t59_0]
  exact h
theorem k59 : Keeps Proofs.Try.prog 59 S59 := by
  refine ⟨?_, Proofs.Try.f59, by kernel_rfl, by kernel_rfl, by kernel_rfl⟩
  intro args e post h
  unfold S59 at h
  split at h
  · refine Spec.inR fun hin hie => fun_ok' (c := c59) gamL_ok (l := u59) a59 rfl mixed_ok (fn := Proofs.Try.f59) (show Proofs.Try.prog.funcs[59]? = some Proofs.Try.f59 by kernel_rfl) (by kernel_rfl) (ls := []) rfl (.inl rfl) trivial (pm := pm59) (by simp [c59]) (by rintro ⟨t, l, h⟩; cases h) ?_
    exact p59_0 _ _ _ _ _ _ _ _ _ hin hie h
  · exact h.elim
def pm74 : Pm := ⟨[ouP, .s, .s, .i .u8], .ln 0 0 (.lr 38 0), [ouR]⟩
def u74 : List (Nat × Tr) := [(23, S23)]
theorem a74 : AllKeep Proofs.Try.prog u74 := ⟨k23, trivial⟩

def c74 : Cfg := { n := 26, Γ := GamL, C := ofL u74, pm := pmL [(23, pm23)], plan := noP, L := lpL [], unroll := nmL [], keep := kpL [] }
def S74 : Tr
  | [.agg [.ownf 1000, .bool dl, .ints false .u8 ms, .bool cn], .int .u32 ch, .int .i64 cmd, .ints false .u8 b'], some (.linr 38 0 ps), post => chk (decide (ps.length ≤ 100000)) (post (replyO ⟨ps, dl, ms, cn⟩ ch cmd b').E (some (replyO ⟨ps, dl, ms, cn⟩ ch cmd b').M))
  | _, _, _ => False
theorem t74_0 (ps : List Rec) (ms : List Int) (dl cn : Bool) (ch cmd : Int) (b' : List Int) (post : AV → Option AV → Prop) : runF c74 pm74 Proofs.Try.f74 [.agg [.ownf 1000, .bool dl, .ints false .u8 ms, .bool cn], .int .u32 ch, .int .i64 cmd, .ints false .u8 b'] (some (.linr 38 0 ps)) post = (br (splitE cmd b'.length == (0 : Int))
     (chk (decide (ps.length + (splitL ch cmd b').length ≤ (1099511627776 : Nat)))
     (post (AV.agg [AV.ownf (1000 : Nat), AV.bool dl, AV.ints false IntKind.u8 ms, AV.bool cn])
     (some (AV.linr (38 : Nat) (0 : Nat) (ps ++ splitL ch cmd b')))))
     (post (AV.agg [AV.ownf (1000 : Nat), AV.bool dl, AV.ints false IntKind.u8 ms, AV.bool cn])
     (some (AV.linr (38 : Nat) (0 : Nat) ps)))) := by kernel_rfl
theorem p74_0 (ps : List Rec) (ms : List Int) (dl cn : Bool) (ch cmd : Int) (b' : List Int) (post : AV → Option AV → Prop) (hin : InRL [.agg [.ownf 1000, .bool dl, .ints false .u8 ms, .bool cn], .int .u32 ch, .int .i64 cmd, .ints false .u8 b']) (hie : InRO (some (.linr 38 0 ps))) (h : chk (decide (ps.length ≤ 100000)) (post (replyO ⟨ps, dl, ms, cn⟩ ch cmd b').E (some (replyO ⟨ps, dl, ms, cn⟩ ch cmd b').M))) : Ok (runF c74 pm74 Proofs.Try.f74 [.agg [.ownf 1000, .bool dl, .ints false .u8 ms, .bool cn], .int .u32 ch, .int .i64 cmd, .ints false .u8 b'] (some (.linr 38 0 ps)) (post)) := by
  refine ⟨?_⟩
  rw [t74_0]
  obtain ⟨h1, h2⟩ := chk_iff.1 h
  have hl := of_decide_eq_true h1
  have hs := splitL_short ch cmd b'
  refine br_eq (fun _ => chk_dec (by omega) h2) (fun he => post_of h2 rfl ?_)
  simp only [Ou.M, replyO]
  rw [splitL, if_pos he, List.append_nil]
theorem k74 : Keeps Proofs.Try.prog 74 S74 := by
  refine ⟨?_, Proofs.Try.f74, by kernel_rfl, by kernel_rfl, by kernel_rfl⟩
  intro args e post h
  unfold S74 at h
  split at h
  · refine Spec.inR fun hin hie => fun_ok' (c := c74) gamL_ok (l := u74) a74 rfl mixed_ok (fn := Proofs.Try.f74) (show Proofs.Try.prog.funcs[74]? = some Proofs.Try.f74 by kernel_rfl) (by kernel_rfl) (ls := []) rfl (.inl rfl) trivial (pm := pm74) (by simp [c74]) (by rintro ⟨t, l, h⟩; cases h) ?_
    exact p74_0 _ _ _ _ _ _ _ _ hin hie h
  · exact h.elim
def pm75 : Pm := ⟨[ouS, .s, .s, .i .u8], .no, [ouS]⟩
def u75 : List (Nat × Tr) := [(24, S24)]
theorem a75 : AllKeep Proofs.Try.prog u75 := ⟨k24, trivial⟩

def c75 : Cfg := { n := 25, Γ := GamL, C := ofL u75, pm := pmL [(24, pm24)], plan := noP, L := lpL [], unroll := nmL [], keep := kpL [] }
def S75 : Tr
  | [.agg [.rs false 0 ps, .bool dl, .ints false .u8 ms, .bool cn], .int .u32 ch, .int .i64 cmd, .ints false .u8 b'], none, post => chk (decide (ps.length ≤ 100000)) (post (replyO ⟨ps, dl, ms, cn⟩ ch cmd b').V none)
  | _, _, _ => False
theorem t75_0 (ps : List Rec) (ms : List Int) (dl cn : Bool) (ch cmd : Int) (b' : List Int) (post : AV → Option AV → Prop) : runF c75 pm75 Proofs.Try.f75 [.agg [.rs false 0 ps, .bool dl, .ints false .u8 ms, .bool cn], .int .u32 ch, .int .i64 cmd, .ints false .u8 b'] none post = (chk (decide (ps.length ≤ (1099511627776 : Nat)))
     (chk (decide (ps.length + (splitL ch cmd b').length ≤ (1099511627776 : Nat)))
     (post (AV.agg [AV.rs false (0 : Nat) (ps ++ splitL ch cmd b'), AV.bool dl, AV.ints false IntKind.u8 ms, AV.bool cn])
     none))) := by kernel_rfl
theorem p75_0 (ps : List Rec) (ms : List Int) (dl cn : Bool) (ch cmd : Int) (b' : List Int) (post : AV → Option AV → Prop) (hin : InRL [.agg [.rs false 0 ps, .bool dl, .ints false .u8 ms, .bool cn], .int .u32 ch, .int .i64 cmd, .ints false .u8 b']) (hie : InRO none) (h : chk (decide (ps.length ≤ 100000)) (post (replyO ⟨ps, dl, ms, cn⟩ ch cmd b').V none)) : Ok (runF c75 pm75 Proofs.Try.f75 [.agg [.rs false 0 ps, .bool dl, .ints false .u8 ms, .bool cn], .int .u32 ch, .int .i64 cmd, .ints false .u8 b'] none (post)) := by
  refine ⟨?_⟩
  rw [t75_0]
  obtain ⟨h1, h2⟩ := chk_iff.1 h
  have hl := of_decide_eq_true h1
  have hs := splitL_short ch cmd b'
  exact chk_dec (by omega) (chk_dec (by omega) h2)
theorem k75 : Keeps Proofs.Try.prog 75 S75 := by
  refine ⟨?_, Proofs.Try.f75, by kernel_rfl, by kernel_rfl, by kernel_rfl⟩
  intro args e post h
  unfold S75 at h
  split at h
  · refine Spec.inR fun hin hie => fun_ok' (c := c75) gamL_ok (l := u75) a75 rfl mixed_ok (fn := Proofs.Try.f75) (show Proofs.Try.prog.funcs[75]? = some Proofs.Try.f75 by kernel_rfl) (by kernel_rfl) (ls := []) rfl (.inl rfl) trivial (pm := pm75) (by simp [c75]) (by rintro ⟨t, l, h⟩; cases h) ?_
    exact p75_0 _ _ _ _ _ _ _ _ hin hie h
  · exact h.elim
def pm60 : Pm := ⟨[ouP, .s, .s], .ln 0 0 (.lr 38 0), [ouR]⟩
def u60 : List (Nat × Tr) := [(74, S74)]
theorem a60 : AllKeep Proofs.Try.prog u60 := ⟨k74, trivial⟩

def c60 : Cfg := { n := 13, Γ := GamL, C := ofL u60, pm := pmL [(74, pm74)], plan := noP, L := lpL [], unroll := nmL [], keep := kpL [] }
def S60 : Tr
  | [.agg [.ownf 1000, .bool dl, .ints false .u8 ms, .bool cn], .int .u32 ch, .int .i64 e], some (.linr 38 0 ps), post => chk (decide (ps.length ≤ 100000)) (post (refuseO ⟨ps, dl, ms, cn⟩ ch e).E (some (refuseO ⟨ps, dl, ms, cn⟩ ch e).M))
  | _, _, _ => False
theorem t60_0 (ps : List Rec) (ms : List Int) (dl cn : Bool) (ch e : Int) (post : AV → Option AV → Prop) : runF c60 pm60 Proofs.Try.f60 [.agg [.ownf 1000, .bool dl, .ints false .u8 ms, .bool cn], .int .u32 ch, .int .i64 e] (some (.linr 38 0 ps)) post = (chk (decide (ps.length ≤ (100000 : Nat)))
     (post
     (AV.agg
     [AV.ownf (1000 : Nat), AV.bool (replyO (Ou.mk ps dl ms cn) ch (63 : Int) [IntKind.u8.wrap e]).dl,
     AV.ints false IntKind.u8 (replyO (Ou.mk ps dl ms cn) ch (63 : Int) [IntKind.u8.wrap e]).ms,
     AV.bool (replyO (Ou.mk ps dl ms cn) ch (63 : Int) [IntKind.u8.wrap e]).cn])
     (some (AV.linr (38 : Nat) (0 : Nat) (replyO (Ou.mk ps dl ms cn) ch (63 : Int) [IntKind.u8.wrap e]).ps)))) := by kernel_rfl
theorem p60_0 (ps : List Rec) (ms : List Int) (dl cn : Bool) (ch e : Int) (post : AV → Option AV → Prop) (hin : InRL [.agg [.ownf 1000, .bool dl, .ints false .u8 ms, .bool cn], .int .u32 ch, .int .i64 e]) (hie : InRO (some (.linr 38 0 ps))) (h : chk (decide (ps.length ≤ 100000)) (post (refuseO ⟨ps, dl, ms, cn⟩ ch e).E (some (refuseO ⟨ps, dl, ms, cn⟩ ch e).M))) : Ok (runF c60 pm60 Proofs.Try.f60 [.agg [.ownf 1000, .bool dl, .ints false .u8 ms, .bool cn], .int .u32 ch, .int .i64 e] (some (.linr 38 0 ps)) (post)) := by
  refine ⟨?_⟩
  rw [t60_0]
  exact h
theorem k60 : Keeps Proofs.Try.prog 60 S60 := by
  refine ⟨?_, Proofs.Try.f60, by kernel_rfl, by kernel_rfl, by kernel_rfl⟩
  intro args e post h
  unfold S60 at h
  split at h
  · refine Spec.inR fun hin hie => fun_ok' (c := c60) gamL_ok (l := u60) a60 rfl mixed_ok (fn := Proofs.Try.f60) (show Proofs.Try.prog.funcs[60]? = some Proofs.Try.f60 by kernel_rfl) (by kernel_rfl) (ls := []) rfl (.inl rfl) trivial (pm := pm60) (by simp [c60]) (by rintro ⟨t, l, h⟩; cases h) ?_
    exact p60_0 _ _ _ _ _ _ _ hin hie h
  · exact h.elim
def pm61 : Pm := ⟨[ouS, .s, .s], .no, [ouS]⟩
def u61 : List (Nat × Tr) := [(75, S75)]
theorem a61 : AllKeep Proofs.Try.prog u61 := ⟨k75, trivial⟩

def c61 : Cfg := { n := 13, Γ := GamL, C := ofL u61, pm := pmL [(75, pm75)], plan := noP, L := lpL [], unroll := nmL [], keep := kpL [] }
def S61 : Tr
  | [.agg [.rs false 0 ps, .bool dl, .ints false .u8 ms, .bool cn], .int .u32 ch, .int .i64 e], none, post => chk (decide (ps.length ≤ 100000)) (post (refuseO ⟨ps, dl, ms, cn⟩ ch e).V none)
  | _, _, _ => False
theorem t61_0 (ps : List Rec) (ms : List Int) (dl cn : Bool) (ch e : Int) (post : AV → Option AV → Prop) : runF c61 pm61 Proofs.Try.f61 [.agg [.rs false 0 ps, .bool dl, .ints false .u8 ms, .bool cn], .int .u32 ch, .int .i64 e] none post = (chk (decide (ps.length ≤ (100000 : Nat)))
     (post
     (AV.agg
     [AV.rs false (0 : Nat) (replyO (Ou.mk ps dl ms cn) ch (63 : Int) [IntKind.u8.wrap e]).ps,
     AV.bool (replyO (Ou.mk ps dl ms cn) ch (63 : Int) [IntKind.u8.wrap e]).dl,
     AV.ints false IntKind.u8 (replyO (Ou.mk ps dl ms cn) ch (63 : Int) [IntKind.u8.wrap e]).ms,
     AV.bool (replyO (Ou.mk ps dl ms cn) ch (63 : Int) [IntKind.u8.wrap e]).cn])
     none)) := by kernel_rfl
theorem p61_0 (ps : List Rec) (ms : List Int) (dl cn : Bool) (ch e : Int) (post : AV → Option AV → Prop) (hin : InRL [.agg [.rs false 0 ps, .bool dl, .ints false .u8 ms, .bool cn], .int .u32 ch, .int .i64 e]) (hie : InRO none) (h : chk (decide (ps.length ≤ 100000)) (post (refuseO ⟨ps, dl, ms, cn⟩ ch e).V none)) : Ok (runF c61 pm61 Proofs.Try.f61 [.agg [.rs false 0 ps, .bool dl, .ints false .u8 ms, .bool cn], .int .u32 ch, .int .i64 e] none (post)) := by
  refine ⟨?_⟩
  rw [t61_0]
  exact h
theorem k61 : Keeps Proofs.Try.prog 61 S61 := by
  refine ⟨?_, Proofs.Try.f61, by kernel_rfl, by kernel_rfl, by kernel_rfl⟩
  intro args e post h
  unfold S61 at h
  split at h
  · refine Spec.inR fun hin hie => fun_ok' (c := c61) gamL_ok (l := u61) a61 rfl mixed_ok (fn := Proofs.Try.f61) (show Proofs.Try.prog.funcs[61]? = some Proofs.Try.f61 by kernel_rfl) (by kernel_rfl) (ls := []) rfl (.inl rfl) trivial (pm := pm61) (by simp [c61]) (by rintro ⟨t, l, h⟩; cases h) ?_
    exact p61_0 _ _ _ _ _ _ _ hin hie h
  · exact h.elim
def pm62 : Pm := ⟨[pkS], .no, [pkS, .s]⟩
def u62 : List (Nat × Tr) := [(31, S31), (36, S36)]
theorem a62 : AllKeep Proofs.Try.prog u62 := ⟨k31, k36, trivial⟩

def c62 : Cfg := { n := 23, Γ := GamL, C := ofL u62, pm := pmL [(31, pm31), (36, pm36)], plan := noP, L := lpL [], unroll := nmL [], keep := kpL [] }
def S62 : Tr
  | [.agg [.int .u32 a, .bool f, .int .i64 b, .int .i64 c, .int .i64 d, .ints false .u8 s]], none, post => post (.tup [pkV (fillR ⟨a, b, c, d, f, s⟩), .bool (decide (chkE f b c d s.length = 0))]) none
  | _, _, _ => False
theorem t62_0 (a b c d : Int) (f : Bool) (s : List Int) (post : AV → Option AV → Prop) : runF c62 pm62 Proofs.Try.f62 [.agg [.int .u32 a, .bool f, .int .i64 b, .int .i64 c, .int .i64 d, .ints false .u8 s]] none post = (br (chkE f b c d s.length != (0 : Int))
     (post
     (AV.tup
     [AV.agg
     [AV.int IntKind.u32 (0 : Int), AV.bool false, AV.int IntKind.i64 (0 : Int), AV.int IntKind.i64 (0 : Int),
     AV.int IntKind.i64 (0 : Int), AV.ints false IntKind.u8 []],
     AV.bool false])
     none)
     (post
     (AV.tup
     [AV.agg
     [AV.int IntKind.u32 (decR (encL a f b c d s)).1, AV.bool (decR (encL a f b c d s)).5,
     AV.int IntKind.i64 (decR (encL a f b c d s)).2, AV.int IntKind.i64 (decR (encL a f b c d s)).3,
     AV.int IntKind.i64 (decR (encL a f b c d s)).4, AV.ints false IntKind.u8 (decR (encL a f b c d s)).6],
     AV.bool (decE (encL a f b c d s) == (0 : Int))])
     none)) := by kernel_rfl
theorem p62_0 (a b c d : Int) (f : Bool) (s : List Int) (post : AV → Option AV → Prop) (hin : InRL [.agg [.int .u32 a, .bool f, .int .i64 b, .int .i64 c, .int .i64 d, .ints false .u8 s]]) (hie : InRO none) (h : post (.tup [pkV (fillR ⟨a, b, c, d, f, s⟩), .bool (decide (chkE f b c d s.length = 0))]) none) : Ok (runF c62 pm62 Proofs.Try.f62 [.agg [.int .u32 a, .bool f, .int .i64 b, .int .i64 c, .int .i64 d, .ints false .u8 s]] none (post)) := by
  refine ⟨?_⟩
  rw [t62_0]
  have hin' := hin
  simp only [InRL, InR] at hin'
  obtain ⟨⟨i1, _, i2, i3, i4, i5, _⟩, _⟩ := hin'
  refine br_ne (fun he => post_of h ?_ rfl) (fun he => post_of h ?_ rfl)
  · rw [fillR, if_neg he, decide_eq_false he]
    rfl
  · obtain ⟨d1, d2⟩ := dec_enc ⟨a, b, c, d, f, s⟩ ⟨i1, i2, i3, i4, i5.1, i5.2⟩ he
    rw [fillR, if_pos he, decide_eq_true he, show encL a f b c d s = encB a f b c d s from if_pos he]
    simp only at d1 d2
    rw [d1, d2]
    rfl
theorem k62 : Keeps Proofs.Try.prog 62 S62 := by
  refine ⟨?_, Proofs.Try.f62, by kernel_rfl, by kernel_rfl, by kernel_rfl⟩
  intro args e post h
  unfold S62 at h
  split at h
  · refine Spec.inR fun hin hie => fun_ok' (c := c62) gamL_ok (l := u62) a62 rfl mixed_ok (fn := Proofs.Try.f62) (show Proofs.Try.prog.funcs[62]? = some Proofs.Try.f62 by kernel_rfl) (by kernel_rfl) (ls := []) rfl (.inl rfl) trivial (pm := pm62) (by simp [c62]) (by rintro ⟨t, l, h⟩; cases h) ?_
    exact p62_0 _ _ _ _ _ _ _ hin hie h
  · exact h.elim
def pm70 : Pm := ⟨[.i .u8, .i .u8, .s], .no, [.i .u8]⟩
def u70 : List (Nat × Tr) := []
theorem a70 : AllKeep Proofs.Try.prog u70 := trivial

def c70 : Cfg := { n := 23, Γ := GamL, C := ofL u70, pm := pmL [], plan := planB70, L := lpL [], unroll := nmL [], keep := kpL [] }
def S70 : Tr
  | [.ints false .u8 x, .ints false .u8 y, .int .i64 n], none, post => chk (decide (x.length ≤ 100000 ∧ y.length ≤ 100000 ∧ -1000000 ≤ n ∧ n ≤ 1000000)) (post (.ints false .u8 (extL x y n)) none)
  | _, _, _ => False
theorem t70_0 (x y : List Int) (n : Int) (post : AV → Option AV → Prop) : runF c70 pm70 Proofs.Try.f70 [.ints false .u8 x, .ints false .u8 y, .int .i64 n] none post = (chk (cutB y.length none (some (imax (imin (IntKind.i64.wrap (n - @Nat.cast Int _ x.length)) (@Nat.cast Int _ y.length)) (0 : Int))))
     (chk (decide ((0 : Nat) + x.length ≤ (1099511627776 : Nat)))
     (chk
     (decide
     (([] ++ x).length +
     (List.take (imax (imin (IntKind.i64.wrap (n - @Nat.cast Int _ x.length)) (@Nat.cast Int _ y.length)) (0 : Int)).toNat
     y).length ≤
     (1099511627776 : Nat)))
     (post
     (AV.ints false IntKind.u8
     ([] ++ x ++
     List.take (imax (imin (IntKind.i64.wrap (n - @Nat.cast Int _ x.length)) (@Nat.cast Int _ y.length)) (0 : Int)).toNat y))
     none)))) := by kernel_rfl
theorem p70_0 (x y : List Int) (n : Int) (post : AV → Option AV → Prop) (hin : InRL [.ints false .u8 x, .ints false .u8 y, .int .i64 n]) (hie : InRO none) (h : chk (decide (x.length ≤ 100000 ∧ y.length ≤ 100000 ∧ -1000000 ≤ n ∧ n ≤ 1000000)) (post (.ints false .u8 (extL x y n)) none)) : Ok (runF c70 pm70 Proofs.Try.f70 [.ints false .u8 x, .ints false .u8 y, .int .i64 n] none (post)) := by
  refine ⟨?_⟩
  rw [t70_0]
  obtain ⟨h1, h2⟩ := chk_iff.1 h
  obtain ⟨q1, q2, q3, q4⟩ := of_decide_eq_true h1
  rw [wrap_i64 (n := n - x.length) (by omega) (by omega)]
  have hm : 0 ≤ imax (imin (n - x.length) y.length) 0 ∧ imax (imin (n - x.length) y.length) 0 ≤ y.length := by unfold imax imin; (repeat' split) <;> omega
  refine chk_of (cut_hi (by omega) (by omega)) (chk_dec (by omega) (chk_dec ?_ h2))
  rw [List.nil_append, List.length_take]
  omega
theorem k70 : Keeps Proofs.Try.prog 70 S70 := by
  refine ⟨?_, Proofs.Try.f70, by kernel_rfl, by kernel_rfl, by kernel_rfl⟩
  intro args e post h
  unfold S70 at h
  split at h
  · refine Spec.inR fun hin hie => fun_ok' (c := c70) gamL_ok (l := u70) a70 rfl mixed_ok (fn := Proofs.Try.f70) (show Proofs.Try.prog.funcs[70]? = some Proofs.Try.f70 by kernel_rfl) (by kernel_rfl) (ls := []) rfl (.inl rfl) trivial (pm := pm70) (by simp [c70]) (by rintro ⟨t, l, h⟩; cases h) ?_
    exact p70_0 _ _ _ _ hin hie h
  · exact h.elim
def pm71 : Pm := ⟨[pkS], .no, [.i .u8]⟩
def u71 : List (Nat × Tr) := []
theorem a71 : AllKeep Proofs.Try.prog u71 := trivial

def kp71_5 : List (Loc × Keep) := [(.t 3, .shp .s), (.t 4, .own 900 (.li 5 .u8))]
def tr71_5 : Trim := .some [4] [900] [] []
def L71_5 : LTr
  | ⟨[(3, .int .i64 n), (4, .ownf 900)], [(900, .lini 5 .u8 L)]⟩, k => chk (decide (0 ≤ n ∧ n ≤ 100 ∧ L.length ≤ 200000)) (k (.exit 0) ⟨[(4, .ownf 900)], [(900, .lini 5 .u8 (L ++ List.replicate (n.toNat - L.length) 0))]⟩)
  | _, _ => False
def c71_0 : Cfg := { n := 18, Γ := GamL, C := ofL u71, pm := pmL [], plan := noP, L := lpL [], unroll := nmL [], keep := kpL [(5, kp71_5)] }
def c71 : Cfg := { n := 18, Γ := GamL, C := ofL u71, pm := pmL [], plan := noP, L := lpL [(5, L71_5)], unroll := nmL [], keep := kpL [(5, kp71_5)] }
def S71 : Tr
  | [.agg [.int .u32 a, .bool ff, .int .i64 b, .int .i64 c, .int .i64 d, .ints false .u8 s]], none, post => chk (decide (s.length ≤ 100000)) (post (.ints false .u8 (padR ⟨a, b, c, d, ff, s⟩).s) none)
  | _, _, _ => False
theorem t71_0 (a b c d : Int) (s : List Int) (post : AV → Option AV → Prop) : runF c71 pm71 Proofs.Try.f71 [.agg [.int .u32 a, .bool true, .int .i64 b, .int .i64 c, .int .i64 d, .ints false .u8 s]] none post = (chk (decide (s.length ≤ (1099511627776 : Nat)))
     (chk (decide ((0 : Int) ≤ (57 : Int) ∧ (57 : Int) ≤ (100 : Int) ∧ s.length ≤ (200000 : Nat)))
     (post (AV.ints false IntKind.u8 (s ++ List.replicate ((57 : Nat) - s.length) (0 : Int))) none))) := by kernel_rfl
theorem t71_1 (a b c d : Int) (s : List Int) (post : AV → Option AV → Prop) : runF c71 pm71 Proofs.Try.f71 [.agg [.int .u32 a, .bool false, .int .i64 b, .int .i64 c, .int .i64 d, .ints false .u8 s]] none post = (chk (decide (s.length ≤ (1099511627776 : Nat)))
     (chk (decide ((0 : Int) ≤ (59 : Int) ∧ (59 : Int) ≤ (100 : Int) ∧ s.length ≤ (200000 : Nat)))
     (post (AV.ints false IntKind.u8 (s ++ List.replicate ((59 : Nat) - s.length) (0 : Int))) none))) := by kernel_rfl
theorem q71_5 (n : Int) (L : List Int) (k : Out → AS → Prop) : stepL c71_0 kp71_5 tr71_5 (loopAt Proofs.Try.f71 5) ⟨[(3, .int .i64 n), (4, .ownf 900)], [(900, .lini 5 .u8 L)]⟩ k = (br (decide (@Nat.cast Int _ L.length < n))
     (chk (decide (L.length + (1 : Nat) ≤ (1099511627776 : Nat)))
     (k Out.normal
     (AS.mk [((3 : Nat), AV.int IntKind.i64 n), ((4 : Nat), AV.ownf (900 : Nat))]
     [((900 : Nat), AV.lini (5 : Nat) IntKind.u8 (L ++ [(0 : Int)]))])))
     (k (Out.exit (0 : Nat)) (AS.mk [((4 : Nat), AV.ownf (900 : Nat))] [((900 : Nat), AV.lini (5 : Nat) IntKind.u8 L)]))) := by kernel_rfl

theorem i71_5 (k : Out → AS → Prop) (fuel : Nat) : ∀ (n : Int) (L : List Int), (n - L.length).toNat < fuel → (0 ≤ n ∧ n ≤ 100 ∧ L.length ≤ 200000) → (k (.exit 0) ⟨[(4, .ownf 900)], [(900, .lini 5 .u8 (L ++ List.replicate (n.toNat - L.length) 0))]⟩) → iterL (stepL c71_0 kp71_5 tr71_5 (loopAt Proofs.Try.f71 5)) k fuel ⟨[(3, .int .i64 n), (4, .ownf 900)], [(900, .lini 5 .u8 L)]⟩ := by
  induction fuel with
  | zero => intro n L hm; omega
  | succ fuel ih =>
    intro n L hm hp hk
    simp only [iterL]
    rw [q71_5]
    dsimp only
    refine br_dec (fun hc => chk_dec (by simp; omega) ?_) (fun hc => ?_)
    · refine ih _ _ (by simp; omega) (by simp; omega) (k_of hk ?_)
      rw [List.length_append, List.append_assoc, show n.toNat - L.length = (n.toNat - (L.length + [(0 : Int)].length)) + 1 by simp; omega, List.replicate_succ]
      rfl
    · refine k_of hk ?_
      rw [show n.toNat - L.length = 0 by omega]
      simp
theorem l71_5 : ∀ s k, L71_5 s k → Tri Proofs.Try.prog 18 (.loop (loopAt Proofs.Try.f71 5)) s k := by
  intro s k h
  unfold L71_5 at h
  split at h
  · obtain ⟨h1, h2⟩ := chk_iff.1 h
    exact iter_ok (c := c71_0) gamL_ok (l := u71) a71 rfl mixed_ok (by kernel_rfl) (ls := []) rfl (.inl rfl) trivial (kps := kp71_5) (tr := tr71_5) (_) (i71_5 k _ _ _ (Nat.lt_succ_self _) (of_decide_eq_true h1) h2)
  · exact h.elim
theorem p71_0 (a b c d : Int) (s : List Int) (post : AV → Option AV → Prop) (hin : InRL [.agg [.int .u32 a, .bool true, .int .i64 b, .int .i64 c, .int .i64 d, .ints false .u8 s]]) (hie : InRO none) (h : chk (decide (s.length ≤ 100000)) (post (.ints false .u8 (padR ⟨a, b, c, d, true, s⟩).s) none)) : Ok (runF c71 pm71 Proofs.Try.f71 [.agg [.int .u32 a, .bool true, .int .i64 b, .int .i64 c, .int .i64 d, .ints false .u8 s]] none (post)) := by
  refine ⟨?_⟩
  rw [t71_0]
  obtain ⟨h1, h2⟩ := chk_iff.1 h
  have hl := of_decide_eq_true h1
  exact chk_dec (by omega) (chk_dec (by omega) h2)
theorem p71_1 (a b c d : Int) (s : List Int) (post : AV → Option AV → Prop) (hin : InRL [.agg [.int .u32 a, .bool false, .int .i64 b, .int .i64 c, .int .i64 d, .ints false .u8 s]]) (hie : InRO none) (h : chk (decide (s.length ≤ 100000)) (post (.ints false .u8 (padR ⟨a, b, c, d, false, s⟩).s) none)) : Ok (runF c71 pm71 Proofs.Try.f71 [.agg [.int .u32 a, .bool false, .int .i64 b, .int .i64 c, .int .i64 d, .ints false .u8 s]] none (post)) := by
  refine ⟨?_⟩
  rw [t71_1]
  obtain ⟨h1, h2⟩ := chk_iff.1 h
  have hl := of_decide_eq_true h1
  exact chk_dec (by omega) (chk_dec (by omega) h2)
theorem P71_0 (a b c d : Int) (s : List Int) (ff : Bool) (post : AV → Option AV → Prop) (hin : InRL [.agg [.int .u32 a, .bool ff, .int .i64 b, .int .i64 c, .int .i64 d, .ints false .u8 s]]) (hie : InRO none) (h : chk (decide (s.length ≤ 100000)) (post (.ints false .u8 (padR ⟨a, b, c, d, ff, s⟩).s) none)) : Ok (runF c71 pm71 Proofs.Try.f71 [.agg [.int .u32 a, .bool ff, .int .i64 b, .int .i64 c, .int .i64 d, .ints false .u8 s]] none (post)) := by
  match ff, hin, hie, h with
  | true, hin, hie, h => exact p71_0 _ _ _ _ _ post hin hie h
  | false, hin, hie, h => exact p71_1 _ _ _ _ _ post hin hie h
theorem k71 : Keeps Proofs.Try.prog 71 S71 := by
  refine ⟨?_, Proofs.Try.f71, by kernel_rfl, by kernel_rfl, by kernel_rfl⟩
  intro args e post h
  unfold S71 at h
  split at h
  · refine Spec.inR fun hin hie => fun_ok' (c := c71) gamL_ok (l := u71) a71 rfl mixed_ok (fn := Proofs.Try.f71) (show Proofs.Try.prog.funcs[71]? = some Proofs.Try.f71 by kernel_rfl) (by kernel_rfl) (ls := [(5, L71_5)]) rfl (.inr (by kernel_rfl)) ⟨l71_5, trivial⟩ (pm := pm71) (by simp [c71]) (by rintro ⟨t, l, h⟩; cases h) ?_
    exact P71_0 _ _ _ _ _ _ _ hin hie h
  · exact h.elim
def pm77 : Pm := ⟨[pkS, .s], .no, [.i .u8]⟩
def u77 : List (Nat × Tr) := []
theorem a77 : AllKeep Proofs.Try.prog u77 := trivial

def c77 : Cfg := { n := 25, Γ := GamL, C := ofL u77, pm := pmL [], plan := noP, L := lpL [], unroll := nmL [], keep := kpL [] }
def S77 : Tr
  | [.agg [.int .u32 a, .bool f, .int .i64 b, .int .i64 c, .int .i64 d, .ints false .u8 s], .int .u32 ch], none, post => chk (decide (8 ≤ s.length)) (post (.ints false .u8 (s.take 8 ++ b4 ch)) none)
  | _, _, _ => False
theorem t77_0 (a b c d : Int) (f : Bool) (s : List Int) (ch : Int) (post : AV → Option AV → Prop) : runF c77 pm77 Proofs.Try.f77 [.agg [.int .u32 a, .bool f, .int .i64 b, .int .i64 c, .int .i64 d, .ints false .u8 s], .int .u32 ch] none post = (chk (cutB s.length none (some (8 : Int)))
     (chk (decide ((0 : Nat) + (List.take (8 : Nat) s).length ≤ (1099511627776 : Nat)))
     (chk
     (decide
     (([] ++ List.take (8 : Nat) s).length +
     [IntKind.u8.wrap (shr IntKind.u32 ch (24 : Int)), IntKind.u8.wrap (shr IntKind.u32 ch (16 : Int)),
     IntKind.u8.wrap (shr IntKind.u32 ch (8 : Int)), IntKind.u8.wrap ch].length ≤
     (1099511627776 : Nat)))
     (post
     (AV.ints false IntKind.u8
     ([] ++ List.take (8 : Nat) s ++
     [IntKind.u8.wrap (shr IntKind.u32 ch (24 : Int)), IntKind.u8.wrap (shr IntKind.u32 ch (16 : Int)),
     IntKind.u8.wrap (shr IntKind.u32 ch (8 : Int)), IntKind.u8.wrap ch]))
     none)))) := by kernel_rfl
theorem p77_0 (a b c d : Int) (f : Bool) (s : List Int) (ch : Int) (post : AV → Option AV → Prop) (hin : InRL [.agg [.int .u32 a, .bool f, .int .i64 b, .int .i64 c, .int .i64 d, .ints false .u8 s], .int .u32 ch]) (hie : InRO none) (h : chk (decide (8 ≤ s.length)) (post (.ints false .u8 (s.take 8 ++ b4 ch)) none)) : Ok (runF c77 pm77 Proofs.Try.f77 [.agg [.int .u32 a, .bool f, .int .i64 b, .int .i64 c, .int .i64 d, .ints false .u8 s], .int .u32 ch] none (post)) := by
  refine ⟨?_⟩
  rw [t77_0]
  obtain ⟨h1, h2⟩ := chk_iff.1 h
  have hl := of_decide_eq_true h1
  exact chk_of (cut_hi (by omega) (by omega)) (chk_dec (by simp; omega) (chk_dec (by simp; omega) h2))
theorem k77 : Keeps Proofs.Try.prog 77 S77 := by
  refine ⟨?_, Proofs.Try.f77, by kernel_rfl, by kernel_rfl, by kernel_rfl⟩
  intro args e post h
  unfold S77 at h
  split at h
  · refine Spec.inR fun hin hie => fun_ok' (c := c77) gamL_ok (l := u77) a77 rfl mixed_ok (fn := Proofs.Try.f77) (show Proofs.Try.prog.funcs[77]? = some Proofs.Try.f77 by kernel_rfl) (by kernel_rfl) (ls := []) rfl (.inl rfl) trivial (pm := pm77) (by simp [c77]) (by rintro ⟨t, l, h⟩; cases h) ?_
    exact p77_0 _ _ _ _ _ _ _ _ hin hie h
  · exact h.elim
def pm78 : Pm := ⟨[lkS, .s], .no, [.s]⟩
def u78 : List (Nat × Tr) := []
theorem a78 : AllKeep Proofs.Try.prog u78 := trivial

def c78 : Cfg := { n := 14, Γ := GamL, C := ofL u78, pm := pmL [], plan := noP, L := lpL [], unroll := nmL [], keep := kpL [] }
def S78 : Tr
  | [.agg [.int .i64 kn, .int .i64 kst, .int .u32 ka, .int .i64 kc, .int .i64 kl, .ints false .u8 ks, .int .i64 kq, .int .i64 kt], .int .u32 ch], none, post => post (.bool (decide (kst ≠ 0 ∧ ka = ch))) none
  | _, _, _ => False
theorem t78_0 (kn kst ka kc kl kq kt : Int) (ks : List Int) (ch : Int) (post : AV → Option AV → Prop) : runF c78 pm78 Proofs.Try.f78 [.agg [.int .i64 kn, .int .i64 kst, .int .u32 ka, .int .i64 kc, .int .i64 kl, .ints false .u8 ks, .int .i64 kq, .int .i64 kt], .int .u32 ch] none post = (br (kst != (0 : Int)) (post (AV.bool (ka == ch)) none) (post (AV.bool false) none)) := by kernel_rfl
theorem p78_0 (kn kst ka kc kl kq kt : Int) (ks : List Int) (ch : Int) (post : AV → Option AV → Prop) (hin : InRL [.agg [.int .i64 kn, .int .i64 kst, .int .u32 ka, .int .i64 kc, .int .i64 kl, .ints false .u8 ks, .int .i64 kq, .int .i64 kt], .int .u32 ch]) (hie : InRO none) (h : post (.bool (decide (kst ≠ 0 ∧ ka = ch))) none) : Ok (runF c78 pm78 Proofs.Try.f78 [.agg [.int .i64 kn, .int .i64 kst, .int .u32 ka, .int .i64 kc, .int .i64 kl, .ints false .u8 ks, .int .i64 kq, .int .i64 kt], .int .u32 ch] none (post)) := by
  refine ⟨?_⟩
  rw [t78_0]
  refine br_ne (fun hc => post_of h ?_ rfl) (fun hc => post_of h ?_ rfl)
  · rw [show (ka == ch) = decide (ka = ch) by rw [Bool.eq_iff_iff]; simp]
    simp [hc]
  · simp [hc]
theorem k78 : Keeps Proofs.Try.prog 78 S78 := by
  refine ⟨?_, Proofs.Try.f78, by kernel_rfl, by kernel_rfl, by kernel_rfl⟩
  intro args e post h
  unfold S78 at h
  split at h
  · refine Spec.inR fun hin hie => fun_ok' (c := c78) gamL_ok (l := u78) a78 rfl mixed_ok (fn := Proofs.Try.f78) (show Proofs.Try.prog.funcs[78]? = some Proofs.Try.f78 by kernel_rfl) (by kernel_rfl) (ls := []) rfl (.inl rfl) trivial (pm := pm78) (by simp [c78]) (by rintro ⟨t, l, h⟩; cases h) ?_
    exact p78_0 _ _ _ _ _ _ _ _ _ _ hin hie h
  · exact h.elim
def pm80 : Pm := ⟨[.s], .no, [.i .u8]⟩
def u80 : List (Nat × Tr) := []
theorem a80 : AllKeep Proofs.Try.prog u80 := trivial

def c80 : Cfg := { n := 15, Γ := GamL, C := ofL u80, pm := pmL [], plan := noP, L := lpL [], unroll := nmL [], keep := kpL [] }
def S80 : Tr
  | [.int .u32 ch], none, post => post (.ints false .u8 (b4 ch)) none
  | _, _, _ => False
theorem t80_0 (ch : Int) (post : AV → Option AV → Prop) : runF c80 pm80 Proofs.Try.f80 [.int .u32 ch] none post = (post
     (AV.ints false IntKind.u8
     [IntKind.u8.wrap (shr IntKind.u32 ch (24 : Int)), IntKind.u8.wrap (shr IntKind.u32 ch (16 : Int)),
     IntKind.u8.wrap (shr IntKind.u32 ch (8 : Int)), IntKind.u8.wrap ch])
     none) := by kernel_rfl
theorem p80_0 (ch : Int) (post : AV → Option AV → Prop) (hin : InRL [.int .u32 ch]) (hie : InRO none) (h : post (.ints false .u8 (b4 ch)) none) : Ok (runF c80 pm80 Proofs.Try.f80 [.int .u32 ch] none (post)) := by
  refine ⟨?_⟩
  rw [t80_0]
  exact h
theorem k80 : Keeps Proofs.Try.prog 80 S80 := by
  refine ⟨?_, Proofs.Try.f80, by kernel_rfl, by kernel_rfl, by kernel_rfl⟩
  intro args e post h
  unfold S80 at h
  split at h
  · refine Spec.inR fun hin hie => fun_ok' (c := c80) gamL_ok (l := u80) a80 rfl mixed_ok (fn := Proofs.Try.f80) (show Proofs.Try.prog.funcs[80]? = some Proofs.Try.f80 by kernel_rfl) (by kernel_rfl) (ls := []) rfl (.inl rfl) trivial (pm := pm80) (by simp [c80]) (by rintro ⟨t, l, h⟩; cases h) ?_
    exact p80_0 _ _ hin hie h
  · exact h.elim
end Go.Proofs.Ytokeanadhihlfaa.V
