import Derived.Test.YtokeanadhihlfaaPlans
import Derived.Test.YtokeanadhihlfaaMB
import Derived.Test.YtokeanadhihlfaaProg
import Derived.Test.YtokeanadhihlfaaS0
import Derived.Test.YtokeanadhihlfaaS1
import Derived.Test.YtokeanadhihlfaaS2
import Derived.Test.YtokeanadhihlfaaS3
import Derived.Test.YtokeanadhihlfaaS4
import Derived.Test.YtokeanadhihlfaaB1
import Derived.Test.YtokeanadhihlfaaP6
import Derived.Test.YtokeanadhihlfaaL1
import Derived.Test.YtokeanadhihlfaaL2
import Derived.Test.YtokeanadhihlfaaL3
import Derived.Test.YtokeanadhihlfaaL4a
import Derived.Test.YtokeanadhihlfaaPlansB
import Derived.KernelRfl
set_option linter.all false
set_option maxHeartbeats 1000000
namespace Go.Proofs.Ytokeanadhihlfaa.V
open Go
def pm48 : Pm := ⟨[.s], .no, [poS]⟩
def u48 : List (Nat × Tr) := []
theorem a48 : AllKeep Proofs.Try.prog u48 := trivial

def c48 : Cfg := { n := 5, Γ := GamL, C := ofL u48, pm := pmL [], plan := noP, L := lpL [], unroll := nmL [], keep := kpL [] }
def S48 : Tr
  | [.int .u32 ch], none, post => post (awaitP ch).V none
  | _, _, _ => False
theorem t48_0 (ch : Int) (post : AV → Option AV → Prop) : runF c48 pm48 Proofs.Try.f48 [.int .u32 ch] none post = (post
     (AV.agg
     [AV.int IntKind.u32 ch, AV.int IntKind.i64 (0 : Int), AV.int IntKind.i64 (-1 : Int), AV.ints false IntKind.u8 [],
     AV.int IntKind.i64 (0 : Int)])
     none) := by kernel_rfl
theorem p48_0 (ch : Int) (post : AV → Option AV → Prop) (hin : InRL [.int .u32 ch]) (hie : InRO none) (h : post (awaitP ch).V none) : Ok (runF c48 pm48 Proofs.Try.f48 [.int .u32 ch] none (post)) := by
  refine ⟨?_⟩
  rw [t48_0]
  exact h
theorem k48 : Keeps Proofs.Try.prog 48 S48 := by
  refine ⟨?_, Proofs.Try.f48, by kernel_rfl, by kernel_rfl, by kernel_rfl⟩
  intro args e post h
  unfold S48 at h
  split at h
  · refine Spec.inR fun hin hie => fun_ok' (c := c48) gamL_ok (l := u48) a48 rfl mixed_ok (fn := Proofs.Try.f48) (show Proofs.Try.prog.funcs[48]? = some Proofs.Try.f48 by kernel_rfl) (by kernel_rfl) (ls := []) rfl (.inl rfl) trivial (pm := pm48) (by simp [c48]) (by rintro ⟨t, l, h⟩; cases h) ?_
    exact p48_0 _ _ hin hie h
  · exact h.elim
def pm49 : Pm := ⟨[.s], .no, [poS]⟩
def u49 : List (Nat × Tr) := []
theorem a49 : AllKeep Proofs.Try.prog u49 := trivial

def c49 : Cfg := { n := 5, Γ := GamL, C := ofL u49, pm := pmL [], plan := noP, L := lpL [], unroll := nmL [], keep := kpL [] }
def S49 : Tr
  | [.int .u32 ch], none, post => post (awaitP ch).V none
  | _, _, _ => False
theorem t49_0 (ch : Int) (post : AV → Option AV → Prop) : runF c49 pm49 Proofs.Try.f49 [.int .u32 ch] none post = (post
     (AV.agg
     [AV.int IntKind.u32 ch, AV.int IntKind.i64 (0 : Int), AV.int IntKind.i64 (-1 : Int), AV.ints false IntKind.u8 [],
     AV.int IntKind.i64 (0 : Int)])
     none) := by kernel_rfl
theorem p49_0 (ch : Int) (post : AV → Option AV → Prop) (hin : InRL [.int .u32 ch]) (hie : InRO none) (h : post (awaitP ch).V none) : Ok (runF c49 pm49 Proofs.Try.f49 [.int .u32 ch] none (post)) := by
  refine ⟨?_⟩
  rw [t49_0]
  exact h
theorem k49 : Keeps Proofs.Try.prog 49 S49 := by
  refine ⟨?_, Proofs.Try.f49, by kernel_rfl, by kernel_rfl, by kernel_rfl⟩
  intro args e post h
  unfold S49 at h
  split at h
  · refine Spec.inR fun hin hie => fun_ok' (c := c49) gamL_ok (l := u49) a49 rfl mixed_ok (fn := Proofs.Try.f49) (show Proofs.Try.prog.funcs[49]? = some Proofs.Try.f49 by kernel_rfl) (by kernel_rfl) (ls := []) rfl (.inl rfl) trivial (pm := pm49) (by simp [c49]) (by rintro ⟨t, l, h⟩; cases h) ?_
    exact p49_0 _ _ hin hie h
  · exact h.elim
def pm50 : Pm := ⟨[poS, pkS], .no, [poS, .s, .i .u8, .s]⟩
def u50 : List (Nat × Tr) := [(48, S48), (62, S62), (70, S70)]
theorem a50 : AllKeep Proofs.Try.prog u50 := ⟨k48, k62, k70, trivial⟩

def c50 : Cfg := { n := 93, Γ := GamL, C := ofL u50, pm := pmL [(48, pm48), (62, pm62), (70, pm70)], plan := planB50, L := lpL [], unroll := nmL [], keep := kpL [] }
def S50 : Tr
  | [.agg [.int .u32 ph, .int .i64 pc, .int .i64 pl, .ints false .u8 pd, .int .i64 pq], .agg [.int .u32 a, .bool f, .int .i64 b, .int .i64 c, .int .i64 d, .ints false .u8 s]], none, post => chk (decide (pd.length ≤ 100000 ∧ -1000000 ≤ pl ∧ pl ≤ 1000000)) (∀ x, acceptL ⟨ph, pc, pl, pd, pq⟩ ⟨a, b, c, d, f, s⟩ = x → post x.V none)
  | _, _, _ => False
theorem t50_0 (ph pc pl pq : Int) (pd : List Int) (a b c d : Int) (f : Bool) (s : List Int) (post : AV → Option AV → Prop) : runF c50 pm50 Proofs.Try.f50 [.agg [.int .u32 ph, .int .i64 pc, .int .i64 pl, .ints false .u8 pd, .int .i64 pq], .agg [.int .u32 a, .bool f, .int .i64 b, .int .i64 c, .int .i64 d, .ints false .u8 s]] none post = (br (!decide (chkE f b c d s.length = (0 : Int)))
     (post
     (AV.tup
     [AV.agg
     [AV.int IntKind.u32 ph, AV.int IntKind.i64 pc, AV.int IntKind.i64 pl, AV.ints false IntKind.u8 pd,
     AV.int IntKind.i64 pq],
     AV.int IntKind.i64 (0 : Int), AV.ints false IntKind.u8 [], AV.bool false])
     none)
     (br ((fillR (Rec.mk a b c d f s)).1 != ph)
     (post
     (AV.tup
     [AV.agg
     [AV.int IntKind.u32 ph, AV.int IntKind.i64 pc, AV.int IntKind.i64 pl, AV.ints false IntKind.u8 pd,
     AV.int IntKind.i64 pq],
     AV.int IntKind.i64 (0 : Int), AV.ints false IntKind.u8 [], AV.bool false])
     none)
     (br (fillR (Rec.mk a b c d f s)).5
     (br (decide ((fillR (Rec.mk a b c d f s)).3 > (4096 : Int)))
     (post
     (AV.tup
     [AV.agg
     [AV.int IntKind.u32 ph, AV.int IntKind.i64 pc, AV.int IntKind.i64 pl, AV.ints false IntKind.u8 pd,
     AV.int IntKind.i64 pq],
     AV.int IntKind.i64 (0 : Int), AV.ints false IntKind.u8 [], AV.bool false])
     none)
     (br (!(fillR (Rec.mk a b c d f s)).5)
     (br (decide (pl < (0 : Int)))
     (post
     (AV.tup
     [AV.agg
     [AV.int IntKind.u32 ph, AV.int IntKind.i64 pc, AV.int IntKind.i64 pl, AV.ints false IntKind.u8 pd,
     AV.int IntKind.i64 pq],
     AV.int IntKind.i64 (0 : Int), AV.ints false IntKind.u8 [], AV.bool false])
     none)
     (br (fillR (Rec.mk a b c d f s)).5
     (chk
     (decide
     ((0 : Nat) ≤ (100000 : Nat) ∧
     (fillR (Rec.mk a b c d f s)).6.length ≤ (100000 : Nat) ∧
     (-1000000 : Int) ≤ (fillR (Rec.mk a b c d f s)).3 ∧
     (fillR (Rec.mk a b c d f s)).3 ≤ (1000000 : Int)))
     (br
     (decide
     (@Nat.cast Int _ (extL [] (fillR (Rec.mk a b c d f s)).6 (fillR (Rec.mk a b c d f s)).3).length <
     (fillR (Rec.mk a b c d f s)).3))
     (post
     (AV.tup
     [AV.agg
     [AV.int IntKind.u32 ph, AV.int IntKind.i64 (fillR (Rec.mk a b c d f s)).2,
     AV.int IntKind.i64 (fillR (Rec.mk a b c d f s)).3,
     AV.ints false IntKind.u8
     (extL [] (fillR (Rec.mk a b c d f s)).6 (fillR (Rec.mk a b c d f s)).3),
     AV.int IntKind.i64 (0 : Int)],
     AV.int IntKind.i64 (0 : Int), AV.ints false IntKind.u8 [], AV.bool false])
     none)
     (post
     (AV.tup
     [AV.agg
     [AV.int IntKind.u32 (awaitP ph).ch, AV.int IntKind.i64 (awaitP ph).cmd,
     AV.int IntKind.i64 (awaitP ph).len, AV.ints false IntKind.u8 (awaitP ph).s,
     AV.int IntKind.i64 (awaitP ph).q],
     AV.int IntKind.i64 (fillR (Rec.mk a b c d f s)).2,
     AV.ints false IntKind.u8
     (extL [] (fillR (Rec.mk a b c d f s)).6 (fillR (Rec.mk a b c d f s)).3),
     AV.bool true])
     none)))
     (br ((fillR (Rec.mk a b c d f s)).4 != pq)
     (post
     (AV.tup
     [AV.agg
     [AV.int IntKind.u32 (awaitP ph).ch, AV.int IntKind.i64 (awaitP ph).cmd,
     AV.int IntKind.i64 (awaitP ph).len, AV.ints false IntKind.u8 (awaitP ph).s,
     AV.int IntKind.i64 (awaitP ph).q],
     AV.int IntKind.i64 (0 : Int), AV.ints false IntKind.u8 [], AV.bool false])
     none)
     (chk
     (decide
     (pd.length ≤ (100000 : Nat) ∧
     (fillR (Rec.mk a b c d f s)).6.length ≤ (100000 : Nat) ∧
     (-1000000 : Int) ≤ pl ∧ pl ≤ (1000000 : Int)))
     (br (decide (@Nat.cast Int _ (extL pd (fillR (Rec.mk a b c d f s)).6 pl).length < pl))
     (post
     (AV.tup
     [AV.agg
     [AV.int IntKind.u32 ph, AV.int IntKind.i64 pc, AV.int IntKind.i64 pl,
     AV.ints false IntKind.u8 (extL pd (fillR (Rec.mk a b c d f s)).6 pl),
     AV.int IntKind.i64 (IntKind.i64.wrap (pq + (1 : Int)))],
     AV.int IntKind.i64 (0 : Int), AV.ints false IntKind.u8 [], AV.bool false])
     none)
     (post
     (AV.tup
     [AV.agg
     [AV.int IntKind.u32 (awaitP ph).ch, AV.int IntKind.i64 (awaitP ph).cmd,
     AV.int IntKind.i64 (awaitP ph).len, AV.ints false IntKind.u8 (awaitP ph).s,
     AV.int IntKind.i64 (awaitP ph).q],
     AV.int IntKind.i64 pc, AV.ints false IntKind.u8 (extL pd (fillR (Rec.mk a b c d f s)).6 pl),
     AV.bool true])
     none))))))
     (br (fillR (Rec.mk a b c d f s)).5
     (chk
     (decide
     ((0 : Nat) ≤ (100000 : Nat) ∧
     (fillR (Rec.mk a b c d f s)).6.length ≤ (100000 : Nat) ∧
     (-1000000 : Int) ≤ (fillR (Rec.mk a b c d f s)).3 ∧
     (fillR (Rec.mk a b c d f s)).3 ≤ (1000000 : Int)))
     (br
     (decide
     (@Nat.cast Int _ (extL [] (fillR (Rec.mk a b c d f s)).6 (fillR (Rec.mk a b c d f s)).3).length <
     (fillR (Rec.mk a b c d f s)).3))
     (post
     (AV.tup
     [AV.agg
     [AV.int IntKind.u32 ph, AV.int IntKind.i64 (fillR (Rec.mk a b c d f s)).2,
     AV.int IntKind.i64 (fillR (Rec.mk a b c d f s)).3,
     AV.ints false IntKind.u8
     (extL [] (fillR (Rec.mk a b c d f s)).6 (fillR (Rec.mk a b c d f s)).3),
     AV.int IntKind.i64 (0 : Int)],
     AV.int IntKind.i64 (0 : Int), AV.ints false IntKind.u8 [], AV.bool false])
     none)
     (post
     (AV.tup
     [AV.agg
     [AV.int IntKind.u32 (awaitP ph).ch, AV.int IntKind.i64 (awaitP ph).cmd,
     AV.int IntKind.i64 (awaitP ph).len, AV.ints false IntKind.u8 (awaitP ph).s,
     AV.int IntKind.i64 (awaitP ph).q],
     AV.int IntKind.i64 (fillR (Rec.mk a b c d f s)).2,
     AV.ints false IntKind.u8 (extL [] (fillR (Rec.mk a b c d f s)).6 (fillR (Rec.mk a b c d f s)).3),
     AV.bool true])
     none)))
     (br ((fillR (Rec.mk a b c d f s)).4 != pq)
     (post
     (AV.tup
     [AV.agg
     [AV.int IntKind.u32 (awaitP ph).ch, AV.int IntKind.i64 (awaitP ph).cmd,
     AV.int IntKind.i64 (awaitP ph).len, AV.ints false IntKind.u8 (awaitP ph).s,
     AV.int IntKind.i64 (awaitP ph).q],
     AV.int IntKind.i64 (0 : Int), AV.ints false IntKind.u8 [], AV.bool false])
     none)
     (chk
     (decide
     (pd.length ≤ (100000 : Nat) ∧
     (fillR (Rec.mk a b c d f s)).6.length ≤ (100000 : Nat) ∧
     (-1000000 : Int) ≤ pl ∧ pl ≤ (1000000 : Int)))
     (br (decide (@Nat.cast Int _ (extL pd (fillR (Rec.mk a b c d f s)).6 pl).length < pl))
     (post
     (AV.tup
     [AV.agg
     [AV.int IntKind.u32 ph, AV.int IntKind.i64 pc, AV.int IntKind.i64 pl,
     AV.ints false IntKind.u8 (extL pd (fillR (Rec.mk a b c d f s)).6 pl),
     AV.int IntKind.i64 (IntKind.i64.wrap (pq + (1 : Int)))],
     AV.int IntKind.i64 (0 : Int), AV.ints false IntKind.u8 [], AV.bool false])
     none)
     (post
     (AV.tup
     [AV.agg
     [AV.int IntKind.u32 (awaitP ph).ch, AV.int IntKind.i64 (awaitP ph).cmd,
     AV.int IntKind.i64 (awaitP ph).len, AV.ints false IntKind.u8 (awaitP ph).s,
     AV.int IntKind.i64 (awaitP ph).q],
     AV.int IntKind.i64 pc, AV.ints false IntKind.u8 (extL pd (fillR (Rec.mk a b c d f s)).6 pl),
     AV.bool true])
     none)))))))
     (br (!(fillR (Rec.mk a b c d f s)).5)
     (br (decide (pl < (0 : Int)))
     (post
     (AV.tup
     [AV.agg
     [AV.int IntKind.u32 ph, AV.int IntKind.i64 pc, AV.int IntKind.i64 pl, AV.ints false IntKind.u8 pd,
     AV.int IntKind.i64 pq],
     AV.int IntKind.i64 (0 : Int), AV.ints false IntKind.u8 [], AV.bool false])
     none)
     (br (fillR (Rec.mk a b c d f s)).5
     (chk
     (decide
     ((0 : Nat) ≤ (100000 : Nat) ∧
     (fillR (Rec.mk a b c d f s)).6.length ≤ (100000 : Nat) ∧
     (-1000000 : Int) ≤ (fillR (Rec.mk a b c d f s)).3 ∧
     (fillR (Rec.mk a b c d f s)).3 ≤ (1000000 : Int)))
     (br
     (decide
     (@Nat.cast Int _ (extL [] (fillR (Rec.mk a b c d f s)).6 (fillR (Rec.mk a b c d f s)).3).length <
     (fillR (Rec.mk a b c d f s)).3))
     (post
     (AV.tup
     [AV.agg
     [AV.int IntKind.u32 ph, AV.int IntKind.i64 (fillR (Rec.mk a b c d f s)).2,
     AV.int IntKind.i64 (fillR (Rec.mk a b c d f s)).3,
     AV.ints false IntKind.u8
     (extL [] (fillR (Rec.mk a b c d f s)).6 (fillR (Rec.mk a b c d f s)).3),
     AV.int IntKind.i64 (0 : Int)],
     AV.int IntKind.i64 (0 : Int), AV.ints false IntKind.u8 [], AV.bool false])
     none)
     (post
     (AV.tup
     [AV.agg
     [AV.int IntKind.u32 (awaitP ph).ch, AV.int IntKind.i64 (awaitP ph).cmd,
     AV.int IntKind.i64 (awaitP ph).len, AV.ints false IntKind.u8 (awaitP ph).s,
     AV.int IntKind.i64 (awaitP ph).q],
     AV.int IntKind.i64 (fillR (Rec.mk a b c d f s)).2,
     AV.ints false IntKind.u8 (extL [] (fillR (Rec.mk a b c d f s)).6 (fillR (Rec.mk a b c d f s)).3),
     AV.bool true])
     none)))
     (br ((fillR (Rec.mk a b c d f s)).4 != pq)
     (post
     (AV.tup
     [AV.agg
     [AV.int IntKind.u32 (awaitP ph).ch, AV.int IntKind.i64 (awaitP ph).cmd,
     AV.int IntKind.i64 (awaitP ph).len, AV.ints false IntKind.u8 (awaitP ph).s,
     AV.int IntKind.i64 (awaitP ph).q],
     AV.int IntKind.i64 (0 : Int), AV.ints false IntKind.u8 [], AV.bool false])
     none)
     (chk
     (decide
     (pd.length ≤ (100000 : Nat) ∧
     (fillR (Rec.mk a b c d f s)).6.length ≤ (100000 : Nat) ∧
     (-1000000 : Int) ≤ pl ∧ pl ≤ (1000000 : Int)))
     (br (decide (@Nat.cast Int _ (extL pd (fillR (Rec.mk a b c d f s)).6 pl).length < pl))
     (post
     (AV.tup
     [AV.agg
     [AV.int IntKind.u32 ph, AV.int IntKind.i64 pc, AV.int IntKind.i64 pl,
     AV.ints false IntKind.u8 (extL pd (fillR (Rec.mk a b c d f s)).6 pl),
     AV.int IntKind.i64 (IntKind.i64.wrap (pq + (1 : Int)))],
     AV.int IntKind.i64 (0 : Int), AV.ints false IntKind.u8 [], AV.bool false])
     none)
     (post
     (AV.tup
     [AV.agg
     [AV.int IntKind.u32 (awaitP ph).ch, AV.int IntKind.i64 (awaitP ph).cmd,
     AV.int IntKind.i64 (awaitP ph).len, AV.ints false IntKind.u8 (awaitP ph).s,
     AV.int IntKind.i64 (awaitP ph).q],
     AV.int IntKind.i64 pc, AV.ints false IntKind.u8 (extL pd (fillR (Rec.mk a b c d f s)).6 pl),
     AV.bool true])
     none))))))
     (br (fillR (Rec.mk a b c d f s)).5
     (chk
     (decide
     ((0 : Nat) ≤ (100000 : Nat) ∧
     (fillR (Rec.mk a b c d f s)).6.length ≤ (100000 : Nat) ∧
     (-1000000 : Int) ≤ (fillR (Rec.mk a b c d f s)).3 ∧ (fillR (Rec.mk a b c d f s)).3 ≤ (1000000 : Int)))
     (br
     (decide
     (@Nat.cast Int _ (extL [] (fillR (Rec.mk a b c d f s)).6 (fillR (Rec.mk a b c d f s)).3).length <
     (fillR (Rec.mk a b c d f s)).3))
     (post
     (AV.tup
     [AV.agg
     [AV.int IntKind.u32 ph, AV.int IntKind.i64 (fillR (Rec.mk a b c d f s)).2,
     AV.int IntKind.i64 (fillR (Rec.mk a b c d f s)).3,
     AV.ints false IntKind.u8
     (extL [] (fillR (Rec.mk a b c d f s)).6 (fillR (Rec.mk a b c d f s)).3),
     AV.int IntKind.i64 (0 : Int)],
     AV.int IntKind.i64 (0 : Int), AV.ints false IntKind.u8 [], AV.bool false])
     none)
     (post
     (AV.tup
     [AV.agg
     [AV.int IntKind.u32 (awaitP ph).ch, AV.int IntKind.i64 (awaitP ph).cmd,
     AV.int IntKind.i64 (awaitP ph).len, AV.ints false IntKind.u8 (awaitP ph).s,
     AV.int IntKind.i64 (awaitP ph).q],
     AV.int IntKind.i64 (fillR (Rec.mk a b c d f s)).2,
     AV.ints false IntKind.u8 (extL [] (fillR (Rec.mk a b c d f s)).6 (fillR (Rec.mk a b c d f s)).3),
     AV.bool true])
     none)))
     (br ((fillR (Rec.mk a b c d f s)).4 != pq)
     (post
     (AV.tup
     [AV.agg
     [AV.int IntKind.u32 (awaitP ph).ch, AV.int IntKind.i64 (awaitP ph).cmd,
     AV.int IntKind.i64 (awaitP ph).len, AV.ints false IntKind.u8 (awaitP ph).s,
     AV.int IntKind.i64 (awaitP ph).q],
     AV.int IntKind.i64 (0 : Int), AV.ints false IntKind.u8 [], AV.bool false])
     none)
     (chk
     (decide
     (pd.length ≤ (100000 : Nat) ∧
     (fillR (Rec.mk a b c d f s)).6.length ≤ (100000 : Nat) ∧
     (-1000000 : Int) ≤ pl ∧ pl ≤ (1000000 : Int)))
     (br (decide (@Nat.cast Int _ (extL pd (fillR (Rec.mk a b c d f s)).6 pl).length < pl))
     (post
     (AV.tup
     [AV.agg
     [AV.int IntKind.u32 ph, AV.int IntKind.i64 pc, AV.int IntKind.i64 pl,
     AV.ints false IntKind.u8 (extL pd (fillR (Rec.mk a b c d f s)).6 pl),
     AV.int IntKind.i64 (IntKind.i64.wrap (pq + (1 : Int)))],
     AV.int IntKind.i64 (0 : Int), AV.ints false IntKind.u8 [], AV.bool false])
     none)
     (post
     (AV.tup
     [AV.agg
     [AV.int IntKind.u32 (awaitP ph).ch, AV.int IntKind.i64 (awaitP ph).cmd,
     AV.int IntKind.i64 (awaitP ph).len, AV.ints false IntKind.u8 (awaitP ph).s,
     AV.int IntKind.i64 (awaitP ph).q],
     AV.int IntKind.i64 pc, AV.ints false IntKind.u8 (extL pd (fillR (Rec.mk a b c d f s)).6 pl),
     AV.bool true])
     none))))))))) := by kernel_rfl
theorem p50_0 (ph pc pl pq : Int) (pd : List Int) (a b c d : Int) (f : Bool) (s : List Int) (post : AV → Option AV → Prop) (hin : InRL [.agg [.int .u32 ph, .int .i64 pc, .int .i64 pl, .ints false .u8 pd, .int .i64 pq], .agg [.int .u32 a, .bool f, .int .i64 b, .int .i64 c, .int .i64 d, .ints false .u8 s]]) (hie : InRO none) (h : chk (decide (pd.length ≤ 100000 ∧ -1000000 ≤ pl ∧ pl ≤ 1000000)) (∀ x, acceptL ⟨ph, pc, pl, pd, pq⟩ ⟨a, b, c, d, f, s⟩ = x → post x.V none)) : Ok (runF c50 pm50 Proofs.Try.f50 [.agg [.int .u32 ph, .int .i64 pc, .int .i64 pl, .ints false .u8 pd, .int .i64 pq], .agg [.int .u32 a, .bool f, .int .i64 b, .int .i64 c, .int .i64 d, .ints false .u8 s]] none (post)) := by
  refine ⟨?_⟩
  rw [t50_0]
  obtain ⟨h1, h2⟩ := chk_iff.1 h
  have hq := of_decide_eq_true h1
  have h3 : post (acceptL ⟨ph, pc, pl, pd, pq⟩ ⟨a, b, c, d, f, s⟩).V none := h2 _ rfl
  clear h h1 h2 hin hie
  unfold acceptL at h3
  by_cases hk : chkE f b c d s.length = 0
  · have ho : okR ⟨a, b, c, d, f, s⟩ := hk
    have hF : fillR ⟨a, b, c, d, f, s⟩ = padR ⟨a, b, c, d, f, s⟩ := if_pos hk
    have e1 : (padR ⟨a, b, c, d, f, s⟩).a = a := rfl
    have e2 : (padR ⟨a, b, c, d, f, s⟩).b = b := rfl
    have e3 : (padR ⟨a, b, c, d, f, s⟩).c = c := rfl
    have e4 : (padR ⟨a, b, c, d, f, s⟩).d = d := rfl
    have e5 : (padR ⟨a, b, c, d, f, s⟩).f = f := rfl
    have e6 := ok_any ho
    have e7 := pad_any ho
    clear ho
    rw [hF]
    clear hF
    generalize padR ⟨a, b, c, d, f, s⟩ = R at *
    obtain ⟨ra, rb, rc, rd, rf, rs⟩ := R
    dsimp only at h3 e1 e2 e3 e4 e5 e6 e7 ⊢
    subst e1 e2 e3 e4 e5
    cases rf
    all_goals simp only [Bool.not_true, Bool.not_false, br_true, br_false]
    all_goals dsimp only [accF] at h3
    all_goals (repeat' first
      | with_reducible refine br_ne (fun _ => ?_) (fun _ => ?_)
      | with_reducible refine br_eq (fun _ => ?_) (fun _ => ?_)
      | with_reducible refine br_dec (fun _ => ?_) (fun _ => ?_)
      | with_reducible refine br_not (br_dec (fun _ => ?_) (fun _ => ?_))
      | with_reducible refine chk_dec (by omega) ?_)
    all_goals first | (exfalso; omega) | skip
    all_goals (repeat first | rw [if_pos (by omega)] at h3 | rw [if_neg (by omega)] at h3 | rw [if_pos rfl] at h3 | rw [if_neg (by decide)] at h3)
    all_goals exact h3
  · repeat' first
    | with_reducible refine br_ne (fun _ => ?_) (fun _ => ?_)
    | with_reducible refine br_eq (fun _ => ?_) (fun _ => ?_)
    | with_reducible refine br_dec (fun _ => ?_) (fun _ => ?_)
    | with_reducible refine br_not (br_dec (fun _ => ?_) (fun _ => ?_))
    | with_reducible refine chk_dec (by omega) ?_
    all_goals first | (exfalso; omega) | skip
    all_goals (repeat first | rw [if_pos (by omega)] at h3 | rw [if_neg (by omega)] at h3 | rw [if_pos rfl] at h3 | rw [if_neg (by decide)] at h3)
    all_goals exact h3
theorem k50 : Keeps Proofs.Try.prog 50 S50 := by
  refine ⟨?_, Proofs.Try.f50, by kernel_rfl, by kernel_rfl, by kernel_rfl⟩
  intro args e post h
  unfold S50 at h
  split at h
  · refine Spec.inR fun hin hie => fun_ok' (c := c50) gamL_ok (l := u50) a50 rfl mixed_ok (fn := Proofs.Try.f50) (show Proofs.Try.prog.funcs[50]? = some Proofs.Try.f50 by kernel_rfl) (by kernel_rfl) (ls := []) rfl (.inl rfl) trivial (pm := pm50) (by simp [c50]) (by rintro ⟨t, l, h⟩; cases h) ?_
    exact p50_0 _ _ _ _ _ _ _ _ _ _ _ _ hin hie h
  · exact h.elim
def pm51 : Pm := ⟨[poS, pkS], .no, [poS, .s, .i .u8, .s]⟩
def u51 : List (Nat × Tr) := [(49, S49), (56, S56), (71, S71)]
theorem a51 : AllKeep Proofs.Try.prog u51 := ⟨k49, k56, k71, trivial⟩

def c51 : Cfg := { n := 104, Γ := GamL, C := ofL u51, pm := pmL [(49, pm49), (56, pm56), (71, pm71)], plan := planB51, L := lpL [], unroll := nmL [], keep := kpL [] }
def S51 : Tr
  | [.agg [.int .u32 ph, .int .i64 pc, .int .i64 pl, .ints false .u8 pd, .int .i64 pq], .agg [.int .u32 a, .bool f, .int .i64 b, .int .i64 c, .int .i64 d, .ints false .u8 s]], none, post => chk (decide (pd.length ≤ 100000 ∧ -1000000 ≤ pl ∧ pl ≤ 1000000)) (∀ x, acceptR ⟨ph, pc, pl, pd, pq⟩ ⟨a, b, c, d, f, s⟩ = x → post x.V none)
  | _, _, _ => False
theorem t51_0 (ph pc pl pq : Int) (pd : List Int) (a b c d : Int) (f : Bool) (s : List Int) (post : AV → Option AV → Prop) : runF c51 pm51 Proofs.Try.f51 [.agg [.int .u32 ph, .int .i64 pc, .int .i64 pl, .ints false .u8 pd, .int .i64 pq], .agg [.int .u32 a, .bool f, .int .i64 b, .int .i64 c, .int .i64 d, .ints false .u8 s]] none post = (br (chkE f b c d s.length != (0 : Int))
     (post
     (AV.tup
     [AV.agg
     [AV.int IntKind.u32 ph, AV.int IntKind.i64 pc, AV.int IntKind.i64 pl, AV.ints false IntKind.u8 pd,
     AV.int IntKind.i64 pq],
     AV.int IntKind.i64 (0 : Int), AV.ints false IntKind.u8 [], AV.bool false])
     none)
     (br (a != ph)
     (post
     (AV.tup
     [AV.agg
     [AV.int IntKind.u32 ph, AV.int IntKind.i64 pc, AV.int IntKind.i64 pl, AV.ints false IntKind.u8 pd,
     AV.int IntKind.i64 pq],
     AV.int IntKind.i64 (0 : Int), AV.ints false IntKind.u8 [], AV.bool false])
     none)
     (br f
     (br (decide (c > (4096 : Int)))
     (post
     (AV.tup
     [AV.agg
     [AV.int IntKind.u32 ph, AV.int IntKind.i64 pc, AV.int IntKind.i64 pl, AV.ints false IntKind.u8 pd,
     AV.int IntKind.i64 pq],
     AV.int IntKind.i64 (0 : Int), AV.ints false IntKind.u8 [], AV.bool false])
     none)
     (br (!f)
     (br (decide (pl < (0 : Int)))
     (post
     (AV.tup
     [AV.agg
     [AV.int IntKind.u32 ph, AV.int IntKind.i64 pc, AV.int IntKind.i64 pl, AV.ints false IntKind.u8 pd,
     AV.int IntKind.i64 pq],
     AV.int IntKind.i64 (0 : Int), AV.ints false IntKind.u8 [], AV.bool false])
     none)
     (chk (decide (s.length ≤ (100000 : Nat)))
     (br f
     (chk (cutB (padR (Rec.mk a b c d f s)).6.length none (some (imin c (57 : Int))))
     (br
     (decide (@Nat.cast Int _ (List.take (imin c (57 : Int)).toNat (padR (Rec.mk a b c d f s)).6).length < c))
     (post
     (AV.tup
     [AV.agg
     [AV.int IntKind.u32 ph, AV.int IntKind.i64 b, AV.int IntKind.i64 c,
     AV.ints false IntKind.u8
     (List.take (imin c (57 : Int)).toNat (padR (Rec.mk a b c d f s)).6),
     AV.int IntKind.i64 (0 : Int)],
     AV.int IntKind.i64 (0 : Int), AV.ints false IntKind.u8 [], AV.bool false])
     none)
     (post
     (AV.tup
     [AV.agg
     [AV.int IntKind.u32 (awaitP ph).ch, AV.int IntKind.i64 (awaitP ph).cmd,
     AV.int IntKind.i64 (awaitP ph).len, AV.ints false IntKind.u8 (awaitP ph).s,
     AV.int IntKind.i64 (awaitP ph).q],
     AV.int IntKind.i64 b,
     AV.ints false IntKind.u8 (List.take (imin c (57 : Int)).toNat (padR (Rec.mk a b c d f s)).6),
     AV.bool true])
     none)))
     (br (d != pq)
     (post
     (AV.tup
     [AV.agg
     [AV.int IntKind.u32 (awaitP ph).ch, AV.int IntKind.i64 (awaitP ph).cmd,
     AV.int IntKind.i64 (awaitP ph).len, AV.ints false IntKind.u8 (awaitP ph).s,
     AV.int IntKind.i64 (awaitP ph).q],
     AV.int IntKind.i64 (0 : Int), AV.ints false IntKind.u8 [], AV.bool false])
     none)
     (chk
     (cutB (padR (Rec.mk a b c d f s)).6.length none
     (some (imin (imax (IntKind.i64.wrap (pl - @Nat.cast Int _ pd.length)) (0 : Int)) (59 : Int))))
     (chk (decide (pd.length ≤ (1099511627776 : Nat)))
     (chk
     (decide
     (pd.length +
     (List.take
     (imin (imax (IntKind.i64.wrap (pl - @Nat.cast Int _ pd.length)) (0 : Int)) (59 : Int)).toNat
     (padR (Rec.mk a b c d f s)).6).length ≤
     (1099511627776 : Nat)))
     (br
     (decide
     (@Nat.cast Int _
     (pd ++
     List.take
     (imin (imax (IntKind.i64.wrap (pl - @Nat.cast Int _ pd.length)) (0 : Int))
     (59 : Int)).toNat
     (padR (Rec.mk a b c d f s)).6).length <
     pl))
     (post
     (AV.tup
     [AV.agg
     [AV.int IntKind.u32 ph, AV.int IntKind.i64 pc, AV.int IntKind.i64 pl,
     AV.ints false IntKind.u8
     (pd ++
     List.take
     (imin (imax (IntKind.i64.wrap (pl - @Nat.cast Int _ pd.length)) (0 : Int))
     (59 : Int)).toNat
     (padR (Rec.mk a b c d f s)).6),
     AV.int IntKind.i64 (IntKind.i64.wrap (pq + (1 : Int)))],
     AV.int IntKind.i64 (0 : Int), AV.ints false IntKind.u8 [], AV.bool false])
     none)
     (post
     (AV.tup
     [AV.agg
     [AV.int IntKind.u32 (awaitP ph).ch, AV.int IntKind.i64 (awaitP ph).cmd,
     AV.int IntKind.i64 (awaitP ph).len, AV.ints false IntKind.u8 (awaitP ph).s,
     AV.int IntKind.i64 (awaitP ph).q],
     AV.int IntKind.i64 pc,
     AV.ints false IntKind.u8
     (pd ++
     List.take
     (imin (imax (IntKind.i64.wrap (pl - @Nat.cast Int _ pd.length)) (0 : Int))
     (59 : Int)).toNat
     (padR (Rec.mk a b c d f s)).6),
     AV.bool true])
     none)))))))))
     (chk (decide (s.length ≤ (100000 : Nat)))
     (br f
     (chk (cutB (padR (Rec.mk a b c d f s)).6.length none (some (imin c (57 : Int))))
     (br (decide (@Nat.cast Int _ (List.take (imin c (57 : Int)).toNat (padR (Rec.mk a b c d f s)).6).length < c))
     (post
     (AV.tup
     [AV.agg
     [AV.int IntKind.u32 ph, AV.int IntKind.i64 b, AV.int IntKind.i64 c,
     AV.ints false IntKind.u8
     (List.take (imin c (57 : Int)).toNat (padR (Rec.mk a b c d f s)).6),
     AV.int IntKind.i64 (0 : Int)],
     AV.int IntKind.i64 (0 : Int), AV.ints false IntKind.u8 [], AV.bool false])
     none)
     (post
     (AV.tup
     [AV.agg
     [AV.int IntKind.u32 (awaitP ph).ch, AV.int IntKind.i64 (awaitP ph).cmd,
     AV.int IntKind.i64 (awaitP ph).len, AV.ints false IntKind.u8 (awaitP ph).s,
     AV.int IntKind.i64 (awaitP ph).q],
     AV.int IntKind.i64 b,
     AV.ints false IntKind.u8 (List.take (imin c (57 : Int)).toNat (padR (Rec.mk a b c d f s)).6),
     AV.bool true])
     none)))
     (br (d != pq)
     (post
     (AV.tup
     [AV.agg
     [AV.int IntKind.u32 (awaitP ph).ch, AV.int IntKind.i64 (awaitP ph).cmd,
     AV.int IntKind.i64 (awaitP ph).len, AV.ints false IntKind.u8 (awaitP ph).s,
     AV.int IntKind.i64 (awaitP ph).q],
     AV.int IntKind.i64 (0 : Int), AV.ints false IntKind.u8 [], AV.bool false])
     none)
     (chk
     (cutB (padR (Rec.mk a b c d f s)).6.length none
     (some (imin (imax (IntKind.i64.wrap (pl - @Nat.cast Int _ pd.length)) (0 : Int)) (59 : Int))))
     (chk (decide (pd.length ≤ (1099511627776 : Nat)))
     (chk
     (decide
     (pd.length +
     (List.take
     (imin (imax (IntKind.i64.wrap (pl - @Nat.cast Int _ pd.length)) (0 : Int)) (59 : Int)).toNat
     (padR (Rec.mk a b c d f s)).6).length ≤
     (1099511627776 : Nat)))
     (br
     (decide
     (@Nat.cast Int _
     (pd ++
     List.take
     (imin (imax (IntKind.i64.wrap (pl - @Nat.cast Int _ pd.length)) (0 : Int))
     (59 : Int)).toNat
     (padR (Rec.mk a b c d f s)).6).length <
     pl))
     (post
     (AV.tup
     [AV.agg
     [AV.int IntKind.u32 ph, AV.int IntKind.i64 pc, AV.int IntKind.i64 pl,
     AV.ints false IntKind.u8
     (pd ++
     List.take
     (imin (imax (IntKind.i64.wrap (pl - @Nat.cast Int _ pd.length)) (0 : Int))
     (59 : Int)).toNat
     (padR (Rec.mk a b c d f s)).6),
     AV.int IntKind.i64 (IntKind.i64.wrap (pq + (1 : Int)))],
     AV.int IntKind.i64 (0 : Int), AV.ints false IntKind.u8 [], AV.bool false])
     none)
     (post
     (AV.tup
     [AV.agg
     [AV.int IntKind.u32 (awaitP ph).ch, AV.int IntKind.i64 (awaitP ph).cmd,
     AV.int IntKind.i64 (awaitP ph).len, AV.ints false IntKind.u8 (awaitP ph).s,
     AV.int IntKind.i64 (awaitP ph).q],
     AV.int IntKind.i64 pc,
     AV.ints false IntKind.u8
     (pd ++
     List.take
     (imin (imax (IntKind.i64.wrap (pl - @Nat.cast Int _ pd.length)) (0 : Int))
     (59 : Int)).toNat
     (padR (Rec.mk a b c d f s)).6),
     AV.bool true])
     none))))))))))
     (br (!f)
     (br (decide (pl < (0 : Int)))
     (post
     (AV.tup
     [AV.agg
     [AV.int IntKind.u32 ph, AV.int IntKind.i64 pc, AV.int IntKind.i64 pl, AV.ints false IntKind.u8 pd,
     AV.int IntKind.i64 pq],
     AV.int IntKind.i64 (0 : Int), AV.ints false IntKind.u8 [], AV.bool false])
     none)
     (chk (decide (s.length ≤ (100000 : Nat)))
     (br f
     (chk (cutB (padR (Rec.mk a b c d f s)).6.length none (some (imin c (57 : Int))))
     (br (decide (@Nat.cast Int _ (List.take (imin c (57 : Int)).toNat (padR (Rec.mk a b c d f s)).6).length < c))
     (post
     (AV.tup
     [AV.agg
     [AV.int IntKind.u32 ph, AV.int IntKind.i64 b, AV.int IntKind.i64 c,
     AV.ints false IntKind.u8
     (List.take (imin c (57 : Int)).toNat (padR (Rec.mk a b c d f s)).6),
     AV.int IntKind.i64 (0 : Int)],
     AV.int IntKind.i64 (0 : Int), AV.ints false IntKind.u8 [], AV.bool false])
     none)
     (post
     (AV.tup
     [AV.agg
     [AV.int IntKind.u32 (awaitP ph).ch, AV.int IntKind.i64 (awaitP ph).cmd,
     AV.int IntKind.i64 (awaitP ph).len, AV.ints false IntKind.u8 (awaitP ph).s,
     AV.int IntKind.i64 (awaitP ph).q],
     AV.int IntKind.i64 b,
     AV.ints false IntKind.u8 (List.take (imin c (57 : Int)).toNat (padR (Rec.mk a b c d f s)).6),
     AV.bool true])
     none)))
     (br (d != pq)
     (post
     (AV.tup
     [AV.agg
     [AV.int IntKind.u32 (awaitP ph).ch, AV.int IntKind.i64 (awaitP ph).cmd,
     AV.int IntKind.i64 (awaitP ph).len, AV.ints false IntKind.u8 (awaitP ph).s,
     AV.int IntKind.i64 (awaitP ph).q],
     AV.int IntKind.i64 (0 : Int), AV.ints false IntKind.u8 [], AV.bool false])
     none)
     (chk
     (cutB (padR (Rec.mk a b c d f s)).6.length none
     (some (imin (imax (IntKind.i64.wrap (pl - @Nat.cast Int _ pd.length)) (0 : Int)) (59 : Int))))
     (chk (decide (pd.length ≤ (1099511627776 : Nat)))
     (chk
     (decide
     (pd.length +
     (List.take
     (imin (imax (IntKind.i64.wrap (pl - @Nat.cast Int _ pd.length)) (0 : Int)) (59 : Int)).toNat
     (padR (Rec.mk a b c d f s)).6).length ≤
     (1099511627776 : Nat)))
     (br
     (decide
     (@Nat.cast Int _
     (pd ++
     List.take
     (imin (imax (IntKind.i64.wrap (pl - @Nat.cast Int _ pd.length)) (0 : Int))
     (59 : Int)).toNat
     (padR (Rec.mk a b c d f s)).6).length <
     pl))
     (post
     (AV.tup
     [AV.agg
     [AV.int IntKind.u32 ph, AV.int IntKind.i64 pc, AV.int IntKind.i64 pl,
     AV.ints false IntKind.u8
     (pd ++
     List.take
     (imin (imax (IntKind.i64.wrap (pl - @Nat.cast Int _ pd.length)) (0 : Int))
     (59 : Int)).toNat
     (padR (Rec.mk a b c d f s)).6),
     AV.int IntKind.i64 (IntKind.i64.wrap (pq + (1 : Int)))],
     AV.int IntKind.i64 (0 : Int), AV.ints false IntKind.u8 [], AV.bool false])
     none)
     (post
     (AV.tup
     [AV.agg
     [AV.int IntKind.u32 (awaitP ph).ch, AV.int IntKind.i64 (awaitP ph).cmd,
     AV.int IntKind.i64 (awaitP ph).len, AV.ints false IntKind.u8 (awaitP ph).s,
     AV.int IntKind.i64 (awaitP ph).q],
     AV.int IntKind.i64 pc,
     AV.ints false IntKind.u8
     (pd ++
     List.take
     (imin (imax (IntKind.i64.wrap (pl - @Nat.cast Int _ pd.length)) (0 : Int))
     (59 : Int)).toNat
     (padR (Rec.mk a b c d f s)).6),
     AV.bool true])
     none)))))))))
     (chk (decide (s.length ≤ (100000 : Nat)))
     (br f
     (chk (cutB (padR (Rec.mk a b c d f s)).6.length none (some (imin c (57 : Int))))
     (br (decide (@Nat.cast Int _ (List.take (imin c (57 : Int)).toNat (padR (Rec.mk a b c d f s)).6).length < c))
     (post
     (AV.tup
     [AV.agg
     [AV.int IntKind.u32 ph, AV.int IntKind.i64 b, AV.int IntKind.i64 c,
     AV.ints false IntKind.u8 (List.take (imin c (57 : Int)).toNat (padR (Rec.mk a b c d f s)).6),
     AV.int IntKind.i64 (0 : Int)],
     AV.int IntKind.i64 (0 : Int), AV.ints false IntKind.u8 [], AV.bool false])
     none)
     (post
     (AV.tup
     [AV.agg
     [AV.int IntKind.u32 (awaitP ph).ch, AV.int IntKind.i64 (awaitP ph).cmd,
     AV.int IntKind.i64 (awaitP ph).len, AV.ints false IntKind.u8 (awaitP ph).s,
     AV.int IntKind.i64 (awaitP ph).q],
     AV.int IntKind.i64 b,
     AV.ints false IntKind.u8 (List.take (imin c (57 : Int)).toNat (padR (Rec.mk a b c d f s)).6),
     AV.bool true])
     none)))
     (br (d != pq)
     (post
     (AV.tup
     [AV.agg
     [AV.int IntKind.u32 (awaitP ph).ch, AV.int IntKind.i64 (awaitP ph).cmd,
     AV.int IntKind.i64 (awaitP ph).len, AV.ints false IntKind.u8 (awaitP ph).s,
     AV.int IntKind.i64 (awaitP ph).q],
     AV.int IntKind.i64 (0 : Int), AV.ints false IntKind.u8 [], AV.bool false])
     none)
     (chk
     (cutB (padR (Rec.mk a b c d f s)).6.length none
     (some (imin (imax (IntKind.i64.wrap (pl - @Nat.cast Int _ pd.length)) (0 : Int)) (59 : Int))))
     (chk (decide (pd.length ≤ (1099511627776 : Nat)))
     (chk
     (decide
     (pd.length +
     (List.take
     (imin (imax (IntKind.i64.wrap (pl - @Nat.cast Int _ pd.length)) (0 : Int)) (59 : Int)).toNat
     (padR (Rec.mk a b c d f s)).6).length ≤
     (1099511627776 : Nat)))
     (br
     (decide
     (@Nat.cast Int _
     (pd ++
     List.take
     (imin (imax (IntKind.i64.wrap (pl - @Nat.cast Int _ pd.length)) (0 : Int)) (59 : Int)).toNat
     (padR (Rec.mk a b c d f s)).6).length <
     pl))
     (post
     (AV.tup
     [AV.agg
     [AV.int IntKind.u32 ph, AV.int IntKind.i64 pc, AV.int IntKind.i64 pl,
     AV.ints false IntKind.u8
     (pd ++
     List.take
     (imin (imax (IntKind.i64.wrap (pl - @Nat.cast Int _ pd.length)) (0 : Int))
     (59 : Int)).toNat
     (padR (Rec.mk a b c d f s)).6),
     AV.int IntKind.i64 (IntKind.i64.wrap (pq + (1 : Int)))],
     AV.int IntKind.i64 (0 : Int), AV.ints false IntKind.u8 [], AV.bool false])
     none)
     (post
     (AV.tup
     [AV.agg
     [AV.int IntKind.u32 (awaitP ph).ch, AV.int IntKind.i64 (awaitP ph).cmd,
     AV.int IntKind.i64 (awaitP ph).len, AV.ints false IntKind.u8 (awaitP ph).s,
     AV.int IntKind.i64 (awaitP ph).q],
     AV.int IntKind.i64 pc,
     AV.ints false IntKind.u8
     (pd ++
     List.take
     (imin (imax (IntKind.i64.wrap (pl - @Nat.cast Int _ pd.length)) (0 : Int)) (59 : Int)).toNat
     (padR (Rec.mk a b c d f s)).6),
     AV.bool true])
     none)))))))))))) := by kernel_rfl
theorem p51_0 (ph pc pl pq : Int) (pd : List Int) (a b c d : Int) (f : Bool) (s : List Int) (post : AV → Option AV → Prop) (hin : InRL [.agg [.int .u32 ph, .int .i64 pc, .int .i64 pl, .ints false .u8 pd, .int .i64 pq], .agg [.int .u32 a, .bool f, .int .i64 b, .int .i64 c, .int .i64 d, .ints false .u8 s]]) (hie : InRO none) (h : chk (decide (pd.length ≤ 100000 ∧ -1000000 ≤ pl ∧ pl ≤ 1000000)) (∀ x, acceptR ⟨ph, pc, pl, pd, pq⟩ ⟨a, b, c, d, f, s⟩ = x → post x.V none)) : Ok (runF c51 pm51 Proofs.Try.f51 [.agg [.int .u32 ph, .int .i64 pc, .int .i64 pl, .ints false .u8 pd, .int .i64 pq], .agg [.int .u32 a, .bool f, .int .i64 b, .int .i64 c, .int .i64 d, .ints false .u8 s]] none (post)) := by
  refine ⟨?_⟩
  rw [t51_0]
  obtain ⟨h1, h2⟩ := chk_iff.1 h
  have hq := of_decide_eq_true h1
  have h3 : post (acceptR ⟨ph, pc, pl, pd, pq⟩ ⟨a, b, c, d, f, s⟩).V none := h2 _ rfl
  clear h h1 h2 hin hie
  unfold acceptR at h3
  by_cases hk : chkE f b c d s.length = 0
  · have ho : okR ⟨a, b, c, d, f, s⟩ := hk
    have e6 := ok_any ho
    have e7 := pad_len _ ho
    have hm := imin_rng c 57 (by dsimp only at e6; omega) (by omega)
    have hn := imin_rng (imax (IntKind.i64.wrap (pl - pd.length)) 0) 59 (by unfold imax; split <;> omega) (by omega)
    clear ho
    dsimp only at e6 e7
    cases f
    all_goals simp only [Bool.not_true, Bool.not_false, br_true, br_false] at e7 ⊢
    all_goals dsimp only [accF] at h3
    all_goals (repeat' first
      | with_reducible refine br_ne (fun _ => ?_) (fun _ => ?_)
      | with_reducible refine br_eq (fun _ => ?_) (fun _ => ?_)
      | with_reducible refine br_dec (fun _ => ?_) (fun _ => ?_)
      | with_reducible refine br_not (br_dec (fun _ => ?_) (fun _ => ?_))
      | with_reducible refine chk_dec (by omega) ?_
      | with_reducible refine chk_of (cut_hi (by omega) (by omega)) ?_
      | with_reducible refine chk_dec (by rw [List.length_take]; omega) ?_)
    all_goals first | (exfalso; omega) | skip
    all_goals (repeat first | rw [if_pos (by omega)] at h3 | rw [if_neg (by omega)] at h3 | rw [if_pos rfl] at h3 | rw [if_neg (by decide)] at h3)
    all_goals exact h3
  · repeat' first
    | with_reducible refine br_ne (fun _ => ?_) (fun _ => ?_)
    | with_reducible refine br_eq (fun _ => ?_) (fun _ => ?_)
    | with_reducible refine br_dec (fun _ => ?_) (fun _ => ?_)
    | with_reducible refine br_not (br_dec (fun _ => ?_) (fun _ => ?_))
    | with_reducible refine chk_dec (by omega) ?_
    all_goals first | (exfalso; omega) | skip
    all_goals (repeat first | rw [if_pos (by omega)] at h3 | rw [if_neg (by omega)] at h3 | rw [if_pos rfl] at h3 | rw [if_neg (by decide)] at h3)
    all_goals exact h3
theorem k51 : Keeps Proofs.Try.prog 51 S51 := by
  refine ⟨?_, Proofs.Try.f51, by kernel_rfl, by kernel_rfl, by kernel_rfl⟩
  intro args e post h
  unfold S51 at h
  split at h
  · refine Spec.inR fun hin hie => fun_ok' (c := c51) gamL_ok (l := u51) a51 rfl mixed_ok (fn := Proofs.Try.f51) (show Proofs.Try.prog.funcs[51]? = some Proofs.Try.f51 by kernel_rfl) (by kernel_rfl) (ls := []) rfl (.inl rfl) trivial (pm := pm51) (by simp [c51]) (by rintro ⟨t, l, h⟩; cases h) ?_
    exact p51_0 _ _ _ _ _ _ _ _ _ _ _ _ hin hie h
  · exact h.elim
def pm44 : Pm := ⟨[lkS, lkS], .no, [.s]⟩
def u44 : List (Nat × Tr) := []
theorem a44 : AllKeep Proofs.Try.prog u44 := trivial

def c44 : Cfg := { n := 61, Γ := GamL, C := ofL u44, pm := pmL [], plan := noP, L := lpL [], unroll := nmL [], keep := kpL [] }
def S44 : Tr
  | [.agg [.int .i64 kn, .int .i64 kst, .int .u32 ka, .int .i64 kc, .int .i64 kl, .ints false .u8 ks, .int .i64 kq, .int .i64 kt], .agg [.int .i64 kn', .int .i64 kst', .int .u32 ka', .int .i64 kc', .int .i64 kl', .ints false .u8 ks', .int .i64 kq', .int .i64 kt']], none, post => (⟨kn, kst, ka, kc, kl, ks, kq, kt⟩ : Lk) = ⟨kn', kst', ka', kc', kl', ks', kq', kt'⟩ ∧ post (.bool true) none
  | _, _, _ => False
theorem t44_0 (kn kst ka kc kl kq kt : Int) (ks : List Int) (kn' kst' ka' kc' kl' kq' kt' : Int) (ks' : List Int) (post : AV → Option AV → Prop) : runF c44 pm44 Proofs.Try.f44 [.agg [.int .i64 kn, .int .i64 kst, .int .u32 ka, .int .i64 kc, .int .i64 kl, .ints false .u8 ks, .int .i64 kq, .int .i64 kt], .agg [.int .i64 kn', .int .i64 kst', .int .u32 ka', .int .i64 kc', .int .i64 kl', .ints false .u8 ks', .int .i64 kq', .int .i64 kt']] none post = (br (kn == kn')
     (br (kst == kst')
     (br (ka == ka')
     (br (kc == kc')
     (br (kl == kl')
     (br (strEq ks ks') (br (kq == kq') (post (AV.bool (kt == kt')) none) (post (AV.bool false) none))
     (post (AV.bool false) none))
     (post (AV.bool false) none))
     (post (AV.bool false) none))
     (post (AV.bool false) none))
     (post (AV.bool false) none))
     (post (AV.bool false) none)) := by kernel_rfl
theorem p44_0 (kn kst ka kc kl kq kt : Int) (ks : List Int) (kn' kst' ka' kc' kl' kq' kt' : Int) (ks' : List Int) (post : AV → Option AV → Prop) (hin : InRL [.agg [.int .i64 kn, .int .i64 kst, .int .u32 ka, .int .i64 kc, .int .i64 kl, .ints false .u8 ks, .int .i64 kq, .int .i64 kt], .agg [.int .i64 kn', .int .i64 kst', .int .u32 ka', .int .i64 kc', .int .i64 kl', .ints false .u8 ks', .int .i64 kq', .int .i64 kt']]) (hie : InRO none) (h : (⟨kn, kst, ka, kc, kl, ks, kq, kt⟩ : Lk) = ⟨kn', kst', ka', kc', kl', ks', kq', kt'⟩ ∧ post (.bool true) none) : Ok (runF c44 pm44 Proofs.Try.f44 [.agg [.int .i64 kn, .int .i64 kst, .int .u32 ka, .int .i64 kc, .int .i64 kl, .ints false .u8 ks, .int .i64 kq, .int .i64 kt], .agg [.int .i64 kn', .int .i64 kst', .int .u32 ka', .int .i64 kc', .int .i64 kl', .ints false .u8 ks', .int .i64 kq', .int .i64 kt']] none (post)) := by
  refine ⟨?_⟩
  rw [t44_0]
  obtain ⟨e, h⟩ := h
  cases e
  simp only [beq_self_eq_true, strEq_refl, br_true]
  exact h
theorem k44 : Keeps Proofs.Try.prog 44 S44 := by
  refine ⟨?_, Proofs.Try.f44, by kernel_rfl, by kernel_rfl, by kernel_rfl⟩
  intro args e post h
  unfold S44 at h
  split at h
  · refine Spec.inR fun hin hie => fun_ok' (c := c44) gamL_ok (l := u44) a44 rfl mixed_ok (fn := Proofs.Try.f44) (show Proofs.Try.prog.funcs[44]? = some Proofs.Try.f44 by kernel_rfl) (by kernel_rfl) (ls := []) rfl (.inl rfl) trivial (pm := pm44) (by simp [c44]) (by rintro ⟨t, l, h⟩; cases h) ?_
    exact p44_0 _ _ _ _ _ _ _ _ _ _ _ _ _ _ _ _ _ hin hie h
  · exact h.elim
def pm45 : Pm := ⟨[ouS, ouS], .no, [.s]⟩
def u45 : List (Nat × Tr) := [(25, S25)]
theorem a45 : AllKeep Proofs.Try.prog u45 := ⟨k25, trivial⟩

def c45 : Cfg := { n := 33, Γ := GamL, C := ofL u45, pm := pmL [(25, pm25)], plan := noP, L := lpL [], unroll := nmL [], keep := kpL [] }
def S45 : Tr
  | [.agg [.rs false 0 ps, .bool dl, .ints false .u8 ms, .bool cn], .agg [.rs false 0 ps', .bool dl', .ints false .u8 ms', .bool cn']], none, post => (⟨ps, dl, ms, cn⟩ : Ou) = ⟨ps', dl', ms', cn'⟩ ∧ post (.bool true) none
  | _, _, _ => False
theorem t45_0 (ps : List Rec) (ms : List Int) (dl cn : Bool) (ps' : List Rec) (ms' : List Int) (dl' cn' : Bool) (post : AV → Option AV → Prop) : runF c45 pm45 Proofs.Try.f45 [.agg [.rs false 0 ps, .bool dl, .ints false .u8 ms, .bool cn], .agg [.rs false 0 ps', .bool dl', .ints false .u8 ms', .bool cn']] none post = (ps = ps' ∧
     br (dl == dl') (br (strEq ms ms') (post (AV.bool (cn == cn')) none) (post (AV.bool false) none))
     (post (AV.bool false) none)) := by kernel_rfl
theorem p45_0 (ps : List Rec) (ms : List Int) (dl cn : Bool) (ps' : List Rec) (ms' : List Int) (dl' cn' : Bool) (post : AV → Option AV → Prop) (hin : InRL [.agg [.rs false 0 ps, .bool dl, .ints false .u8 ms, .bool cn], .agg [.rs false 0 ps', .bool dl', .ints false .u8 ms', .bool cn']]) (hie : InRO none) (h : (⟨ps, dl, ms, cn⟩ : Ou) = ⟨ps', dl', ms', cn'⟩ ∧ post (.bool true) none) : Ok (runF c45 pm45 Proofs.Try.f45 [.agg [.rs false 0 ps, .bool dl, .ints false .u8 ms, .bool cn], .agg [.rs false 0 ps', .bool dl', .ints false .u8 ms', .bool cn']] none (post)) := by
  refine ⟨?_⟩
  rw [t45_0]
  obtain ⟨e, h⟩ := h
  cases e
  refine ⟨rfl, ?_⟩
  simp only [beq_self_eq_true, strEq_refl, br_true]
  exact h
theorem k45 : Keeps Proofs.Try.prog 45 S45 := by
  refine ⟨?_, Proofs.Try.f45, by kernel_rfl, by kernel_rfl, by kernel_rfl⟩
  intro args e post h
  unfold S45 at h
  split at h
  · refine Spec.inR fun hin hie => fun_ok' (c := c45) gamL_ok (l := u45) a45 rfl mixed_ok (fn := Proofs.Try.f45) (show Proofs.Try.prog.funcs[45]? = some Proofs.Try.f45 by kernel_rfl) (by kernel_rfl) (ls := []) rfl (.inl rfl) trivial (pm := pm45) (by simp [c45]) (by rintro ⟨t, l, h⟩; cases h) ?_
    exact p45_0 _ _ _ _ _ _ _ _ _ hin hie h
  · exact h.elim
def pm52 : Pm := ⟨[poS, poS], .no, [.s]⟩
def u52 : List (Nat × Tr) := []
theorem a52 : AllKeep Proofs.Try.prog u52 := trivial

def c52 : Cfg := { n := 40, Γ := GamL, C := ofL u52, pm := pmL [], plan := noP, L := lpL [], unroll := nmL [], keep := kpL [] }
def S52 : Tr
  | [.agg [.int .u32 ph, .int .i64 pc, .int .i64 pl, .ints false .u8 pd, .int .i64 pq], .agg [.int .u32 ph', .int .i64 pc', .int .i64 pl', .ints false .u8 pd', .int .i64 pq']], none, post => (⟨ph, pc, pl, pd, pq⟩ : Pt) = ⟨ph', pc', pl', pd', pq'⟩ ∧ post (.bool true) none
  | _, _, _ => False
theorem t52_0 (ph pc pl pq ph' pc' pl' pq' : Int) (pd pd' : List Int) (post : AV → Option AV → Prop) : runF c52 pm52 Proofs.Try.f52 [.agg [.int .u32 ph, .int .i64 pc, .int .i64 pl, .ints false .u8 pd, .int .i64 pq], .agg [.int .u32 ph', .int .i64 pc', .int .i64 pl', .ints false .u8 pd', .int .i64 pq']] none post = (br (ph == ph')
     (br (pc == pc')
     (br (pl == pl') (br (strEq pd pd') (post (AV.bool (pq == pq')) none) (post (AV.bool false) none))
     (post (AV.bool false) none))
     (post (AV.bool false) none))
     (post (AV.bool false) none)) := by kernel_rfl
theorem p52_0 (ph pc pl pq ph' pc' pl' pq' : Int) (pd pd' : List Int) (post : AV → Option AV → Prop) (hin : InRL [.agg [.int .u32 ph, .int .i64 pc, .int .i64 pl, .ints false .u8 pd, .int .i64 pq], .agg [.int .u32 ph', .int .i64 pc', .int .i64 pl', .ints false .u8 pd', .int .i64 pq']]) (hie : InRO none) (h : (⟨ph, pc, pl, pd, pq⟩ : Pt) = ⟨ph', pc', pl', pd', pq'⟩ ∧ post (.bool true) none) : Ok (runF c52 pm52 Proofs.Try.f52 [.agg [.int .u32 ph, .int .i64 pc, .int .i64 pl, .ints false .u8 pd, .int .i64 pq], .agg [.int .u32 ph', .int .i64 pc', .int .i64 pl', .ints false .u8 pd', .int .i64 pq']] none (post)) := by
  refine ⟨?_⟩
  rw [t52_0]
  obtain ⟨e, h⟩ := h
  cases e
  simp only [beq_self_eq_true, strEq_refl, br_true]
  exact h
theorem k52 : Keeps Proofs.Try.prog 52 S52 := by
  refine ⟨?_, Proofs.Try.f52, by kernel_rfl, by kernel_rfl, by kernel_rfl⟩
  intro args e post h
  unfold S52 at h
  split at h
  · refine Spec.inR fun hin hie => fun_ok' (c := c52) gamL_ok (l := u52) a52 rfl mixed_ok (fn := Proofs.Try.f52) (show Proofs.Try.prog.funcs[52]? = some Proofs.Try.f52 by kernel_rfl) (by kernel_rfl) (ls := []) rfl (.inl rfl) trivial (pm := pm52) (by simp [c52]) (by rintro ⟨t, l, h⟩; cases h) ?_
    exact p52_0 _ _ _ _ _ _ _ _ _ _ _ hin hie h
  · exact h.elim
end Go.Proofs.Ytokeanadhihlfaa.V
