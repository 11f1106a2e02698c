import Derived.Test.YtokeanadhihlfaaPlans
import Derived.Test.YtokeanadhihlfaaVNum
import Derived.Test.YtokeanadhihlfaaProg
import Derived.Test.YtokeanadhihlfaaS0
import Derived.Test.YtokeanadhihlfaaS1
import Derived.Test.YtokeanadhihlfaaS2
import Derived.Test.YtokeanadhihlfaaS3
import Derived.Test.YtokeanadhihlfaaS4
import Derived.Test.YtokeanadhihlfaaS5
import Derived.Test.YtokeanadhihlfaaB1
import Derived.KernelRfl
set_option linter.all false
set_option maxHeartbeats 1000000
namespace Go.Proofs.Ytokeanadhihlfaa.V
open Go
def pm7 : Pm := ⟨[pkS, .i .i64], .no, [.s]⟩
def u7 : List (Nat × Tr) := [(21, S21), (26, S26), (34, S34), (35, S35)]
theorem a7 : AllKeep Proofs.Try.prog u7 := ⟨k21, k26, k34, k35, trivial⟩

def c7 : Cfg := { n := 21, Γ := Gam, C := ofL u7, pm := pmL [(21, pm21), (26, pm26), (34, pm34), (35, pm35)], plan := noP, L := lpL [], unroll := nmL [], keep := kpL [] }
def S7 : Tr
  | [.agg [.int .u32 a, .bool f, .int .i64 b, .int .i64 c, .int .i64 d, .ints false .u8 s], .ints false .i64 l], none, post => post (.bool true) none
  | _, _, _ => False
theorem t7_0 (a b c d : Int) (f : Bool) (s l : List Int) (post : AV → Option AV → Prop) : runF c7 pm7 Proofs.Try.f7 [.agg [.int .u32 a, .bool f, .int .i64 b, .int .i64 c, .int .i64 d, .ints false .u8 s], .ints false .i64 l] none post = (br (decide (@Nat.cast Int _ s.length > (200 : Int))) (post (AV.bool true) none)
      (∀ (r : Rec) (n' : Int),
        RngR (0 : Nat) r → r.s.length ≤ (60 : Nat) → (0 : Int) ≤ n' ∧ n' ≤ ↑l.length → post (AV.bool true) none)) := by kernel_rfl
theorem p7_0 (a b c d : Int) (f : Bool) (s l : List Int) (post : AV → Option AV → Prop) (hin : InRL [.agg [.int .u32 a, .bool f, .int .i64 b, .int .i64 c, .int .i64 d, .ints false .u8 s], .ints false .i64 l]) (hie : InRO none) (h : post (.bool true) none) : Ok (runF c7 pm7 Proofs.Try.f7 [.agg [.int .u32 a, .bool f, .int .i64 b, .int .i64 c, .int .i64 d, .ints false .u8 s], .ints false .i64 l] none (post)) := by
  refine ⟨?_⟩
  rw [t7_0]
  refine br_dec (fun _ => h) (fun _ r n _ _ _ => h)
theorem k7 : Keeps Proofs.Try.prog 7 S7 := by
  refine ⟨?_, Proofs.Try.f7, by kernel_rfl, by kernel_rfl, by kernel_rfl⟩
  intro args e post h
  unfold S7 at h
  split at h
  · refine Spec.inR fun hin hie => fun_ok' (c := c7) gam_ok (l := u7) a7 rfl mixed_ok (fn := Proofs.Try.f7) (show Proofs.Try.prog.funcs[7]? = some Proofs.Try.f7 by kernel_rfl) (by kernel_rfl) (ls := []) rfl (.inl rfl) trivial (pm := pm7) (by simp [c7]) (by rintro ⟨t, l, h⟩; cases h) ?_
    exact p7_0 _ _ _ _ _ _ _ _ hin hie h
  · exact h.elim
def pm6 : Pm := ⟨[.i .u8, .i .i64], .no, [.s]⟩
def u6 : List (Nat × Tr) := [(21, S21), (26, S26), (27, S27), (30, S30), (31, S31), (32, S32), (33, S33)]
theorem a6 : AllKeep Proofs.Try.prog u6 := ⟨k21, k26, k27, k30, k31, k32, k33, trivial⟩

def c6 : Cfg := { n := 70, Γ := Gam, C := ofL u6, pm := pmL [(21, pm21), (26, pm26), (27, pm27), (30, pm30), (31, pm31), (32, pm32), (33, pm33)], plan := plan6, L := lpL [], unroll := nmL [(8, 3)], keep := kpL [] }
def S6 : Tr
  | [.ints false .u8 b, .ints false .i64 l], none, post => post (.bool true) none
  | _, _, _ => False
theorem t6_0 (b l : List Int) (post : AV → Option AV → Prop) : runF c6 pm6 Proofs.Try.f6 [.ints false .u8 b, .ints false .i64 l] none post = (br (decide (@Nat.cast Int _ b.length > (300 : Int))) (post (AV.bool true) none)
      (chk
        (decide
          ((0 : Int) < (5 : Int) ∧
            (5 : Int) ≤ (1000000 : Int) ∧ (0 : Int) ≤ nextN l (0 : Int) ∧ nextN l (0 : Int) ≤ @Nat.cast Int _ l.length))
        (chk (inB (nextR l (nextN l (0 : Int)) (5 : Int)) (5 : Nat))
          (chk (decide ((nextR l (nextN l (0 : Int)) (5 : Int)).toNat < (5 : Nat)))
            (∀ (l_1 : List Int),
              RngL IntKind.u8 l_1 →
                l_1.length =
                    clampN
                      (IntKind.i64.wrap
                        ((64 : Int) +
                          [(0 : Int), (0 : Int), (0 : Int), (1 : Int), (-1 : Int)].getD
                            (nextR l (nextN l (0 : Int)) (5 : Int)).toNat (0 : Int))) →
                  br (decide (@Nat.cast Int _ l_1.length > (4 : Int)))
                    (chk (inB (4 : Int) l_1.length)
                      (chk (decide ((4 : Nat) < l_1.length))
                        (chk
                            (decide
                              ((0 : Int) < (6 : Int) ∧
                                (6 : Int) ≤ (1000000 : Int) ∧
                                  (0 : Int) ≤ nextN l (nextN l (0 : Int)) ∧
                                    nextN l (nextN l (0 : Int)) ≤ @Nat.cast Int _ l.length))
                            (chk
                              (inB (nextR l (nextN l (nextN l (0 : Int))) (6 : Int))
                                [l_1.getD (4 : Nat) (0 : Int), (128 : Int), (129 : Int), (255 : Int), (0 : Int),
                                    (127 : Int)].length)
                              (chk
                                (decide
                                  ((nextR l (nextN l (nextN l (0 : Int))) (6 : Int)).toNat <
                                    [l_1.getD (4 : Nat) (0 : Int), (128 : Int), (129 : Int), (255 : Int), (0 : Int),
                                        (127 : Int)].length))
                                (chk (inB (4 : Int) l_1.length)
                                  (chk (decide ((4 : Nat) < l_1.length))
                                    (br
                                      (!decide
                                          ((decR
                                                  ([Rec.mk (0 : Int) (0 : Int) (0 : Int) (0 : Int) false b,
                                                          Rec.mk (0 : Int) (0 : Int) (0 : Int) (0 : Int) false
                                                            (l_1.set (4 : Nat)
                                                              ([l_1.getD (4 : Nat) (0 : Int), (128 : Int), (129 : Int),
                                                                    (255 : Int), (0 : Int), (127 : Int)].getD
                                                                (nextR l (nextN l (nextN l (0 : Int))) (6 : Int)).toNat
                                                                (0 : Int)))].getD
                                                      (0 : Nat) default).6).1 =
                                              (decR
                                                  ([Rec.mk (0 : Int) (0 : Int) (0 : Int) (0 : Int) false b,
                                                          Rec.mk (0 : Int) (0 : Int) (0 : Int) (0 : Int) false
                                                            (l_1.set (4 : Nat)
                                                              ([l_1.getD (4 : Nat) (0 : Int), (128 : Int), (129 : Int),
                                                                    (255 : Int), (0 : Int), (127 : Int)].getD
                                                                (nextR l (nextN l (nextN l (0 : Int))) (6 : Int)).toNat
                                                                (0 : Int)))].getD
                                                      (0 : Nat) default).6).1 ∧
                                            (decR
                                                    ([Rec.mk (0 : Int) (0 : Int) (0 : Int) (0 : Int) false b,
                                                            Rec.mk (0 : Int) (0 : Int) (0 : Int) (0 : Int) false
                                                              (l_1.set (4 : Nat)
                                                                ([l_1.getD (4 : Nat) (0 : Int), (128 : Int), (129 : Int),
                                                                      (255 : Int), (0 : Int), (127 : Int)].getD
                                                                  (nextR l (nextN l (nextN l (0 : Int))) (6 : Int)).toNat
                                                                  (0 : Int)))].getD
                                                        (0 : Nat) default).6).5 =
                                                (decR
                                                    ([Rec.mk (0 : Int) (0 : Int) (0 : Int) (0 : Int) false b,
                                                            Rec.mk (0 : Int) (0 : Int) (0 : Int) (0 : Int) false
                                                              (l_1.set (4 : Nat)
                                                                ([l_1.getD (4 : Nat) (0 : Int), (128 : Int), (129 : Int),
                                                                      (255 : Int), (0 : Int), (127 : Int)].getD
                                                                  (nextR l (nextN l (nextN l (0 : Int))) (6 : Int)).toNat
                                                                  (0 : Int)))].getD
                                                        (0 : Nat) default).6).5 ∧
                                              (decR
                                                      ([Rec.mk (0 : Int) (0 : Int) (0 : Int) (0 : Int) false b,
                                                              Rec.mk (0 : Int) (0 : Int) (0 : Int) (0 : Int) false
                                                                (l_1.set (4 : Nat)
                                                                  ([l_1.getD (4 : Nat) (0 : Int), (128 : Int), (129 : Int),
                                                                        (255 : Int), (0 : Int), (127 : Int)].getD
                                                                    (nextR l (nextN l (nextN l (0 : Int))) (6 : Int)).toNat
                                                                    (0 : Int)))].getD
                                                          (0 : Nat) default).6).2 =
                                                  (decR
                                                      ([Rec.mk (0 : Int) (0 : Int) (0 : Int) (0 : Int) false b,
                                                              Rec.mk (0 : Int) (0 : Int) (0 : Int) (0 : Int) false
                                                                (l_1.set (4 : Nat)
                                                                  ([l_1.getD (4 : Nat) (0 : Int), (128 : Int), (129 : Int),
                                                                        (255 : Int), (0 : Int), (127 : Int)].getD
                                                                    (nextR l (nextN l (nextN l (0 : Int))) (6 : Int)).toNat
                                                                    (0 : Int)))].getD
                                                          (0 : Nat) default).6).2 ∧
                                                (decR
                                                        ([Rec.mk (0 : Int) (0 : Int) (0 : Int) (0 : Int) false b,
                                                                Rec.mk (0 : Int) (0 : Int) (0 : Int) (0 : Int) false
                                                                  (l_1.set (4 : Nat)
                                                                    ([l_1.getD (4 : Nat) (0 : Int), (128 : Int),
                                                                          (129 : Int), (255 : Int), (0 : Int),
                                                                          (127 : Int)].getD
                                                                      (nextR l (nextN l (nextN l (0 : Int)))
                                                                          (6 : Int)).toNat
                                                                      (0 : Int)))].getD
                                                            (0 : Nat) default).6).3 =
                                                    (decR
                                                        ([Rec.mk (0 : Int) (0 : Int) (0 : Int) (0 : Int) false b,
                                                                Rec.mk (0 : Int) (0 : Int) (0 : Int) (0 : Int) false
                                                                  (l_1.set (4 : Nat)
                                                                    ([l_1.getD (4 : Nat) (0 : Int), (128 : Int),
                                                                          (129 : Int), (255 : Int), (0 : Int),
                                                                          (127 : Int)].getD
                                                                      (nextR l (nextN l (nextN l (0 : Int)))
                                                                          (6 : Int)).toNat
                                                                      (0 : Int)))].getD
                                                            (0 : Nat) default).6).3 ∧
                                                  (decR
                                                          ([Rec.mk (0 : Int) (0 : Int) (0 : Int) (0 : Int) false b,
                                                                  Rec.mk (0 : Int) (0 : Int) (0 : Int) (0 : Int) false
                                                                    (l_1.set (4 : Nat)
                                                                      ([l_1.getD (4 : Nat) (0 : Int), (128 : Int),
                                                                            (129 : Int), (255 : Int), (0 : Int),
                                                                            (127 : Int)].getD
                                                                        (nextR l (nextN l (nextN l (0 : Int)))
                                                                            (6 : Int)).toNat
                                                                        (0 : Int)))].getD
                                                              (0 : Nat) default).6).4 =
                                                      (decR
                                                          ([Rec.mk (0 : Int) (0 : Int) (0 : Int) (0 : Int) false b,
                                                                  Rec.mk (0 : Int) (0 : Int) (0 : Int) (0 : Int) false
                                                                    (l_1.set (4 : Nat)
                                                                      ([l_1.getD (4 : Nat) (0 : Int), (128 : Int),
                                                                            (129 : Int), (255 : Int), (0 : Int),
                                                                            (127 : Int)].getD
                                                                        (nextR l (nextN l (nextN l (0 : Int)))
                                                                            (6 : Int)).toNat
                                                                        (0 : Int)))].getD
                                                              (0 : Nat) default).6).4 ∧
                                                    (decR
                                                          ([Rec.mk (0 : Int) (0 : Int) (0 : Int) (0 : Int) false b,
                                                                  Rec.mk (0 : Int) (0 : Int) (0 : Int) (0 : Int) false
                                                                    (l_1.set (4 : Nat)
                                                                      ([l_1.getD (4 : Nat) (0 : Int), (128 : Int),
                                                                            (129 : Int), (255 : Int), (0 : Int),
                                                                            (127 : Int)].getD
                                                                        (nextR l (nextN l (nextN l (0 : Int)))
                                                                            (6 : Int)).toNat
                                                                        (0 : Int)))].getD
                                                              (0 : Nat) default).6).6 =
                                                      (decR
                                                          ([Rec.mk (0 : Int) (0 : Int) (0 : Int) (0 : Int) false b,
                                                                  Rec.mk (0 : Int) (0 : Int) (0 : Int) (0 : Int) false
                                                                    (l_1.set (4 : Nat)
                                                                      ([l_1.getD (4 : Nat) (0 : Int), (128 : Int),
                                                                            (129 : Int), (255 : Int), (0 : Int),
                                                                            (127 : Int)].getD
                                                                        (nextR l (nextN l (nextN l (0 : Int)))
                                                                            (6 : Int)).toNat
                                                                        (0 : Int)))].getD
                                                              (0 : Nat) default).6).6))
                                      (post (AV.bool false) none)
                                      (br
                                        (decE
                                            ([Rec.mk (0 : Int) (0 : Int) (0 : Int) (0 : Int) false b,
                                                    Rec.mk (0 : Int) (0 : Int) (0 : Int) (0 : Int) false
                                                      (l_1.set (4 : Nat)
                                                        ([l_1.getD (4 : Nat) (0 : Int), (128 : Int), (129 : Int),
                                                              (255 : Int), (0 : Int), (127 : Int)].getD
                                                          (nextR l (nextN l (nextN l (0 : Int))) (6 : Int)).toNat
                                                          (0 : Int)))].getD
                                                (0 : Nat) default).6 !=
                                          decE
                                            ([Rec.mk (0 : Int) (0 : Int) (0 : Int) (0 : Int) false b,
                                                    Rec.mk (0 : Int) (0 : Int) (0 : Int) (0 : Int) false
                                                      (l_1.set (4 : Nat)
                                                        ([l_1.getD (4 : Nat) (0 : Int), (128 : Int), (129 : Int),
                                                              (255 : Int), (0 : Int), (127 : Int)].getD
                                                          (nextR l (nextN l (nextN l (0 : Int))) (6 : Int)).toNat
                                                          (0 : Int)))].getD
                                                (0 : Nat) default).6)
                                        (post (AV.bool false) none)
                                        (br
                                          (!decide
                                              ((decR
                                                      ([Rec.mk (0 : Int) (0 : Int) (0 : Int) (0 : Int) false b,
                                                              Rec.mk (0 : Int) (0 : Int) (0 : Int) (0 : Int) false
                                                                (l_1.set (4 : Nat)
                                                                  ([l_1.getD (4 : Nat) (0 : Int), (128 : Int), (129 : Int),
                                                                        (255 : Int), (0 : Int), (127 : Int)].getD
                                                                    (nextR l (nextN l (nextN l (0 : Int))) (6 : Int)).toNat
                                                                    (0 : Int)))].getD
                                                          (1 : Nat) default).6).1 =
                                                  (decR
                                                      ([Rec.mk (0 : Int) (0 : Int) (0 : Int) (0 : Int) false b,
                                                              Rec.mk (0 : Int) (0 : Int) (0 : Int) (0 : Int) false
                                                                (l_1.set (4 : Nat)
                                                                  ([l_1.getD (4 : Nat) (0 : Int), (128 : Int), (129 : Int),
                                                                        (255 : Int), (0 : Int), (127 : Int)].getD
                                                                    (nextR l (nextN l (nextN l (0 : Int))) (6 : Int)).toNat
                                                                    (0 : Int)))].getD
                                                          (1 : Nat) default).6).1 ∧
                                                (decR
                                                        ([Rec.mk (0 : Int) (0 : Int) (0 : Int) (0 : Int) false b,
                                                                Rec.mk (0 : Int) (0 : Int) (0 : Int) (0 : Int) false
                                                                  (l_1.set (4 : Nat)
                                                                    ([l_1.getD (4 : Nat) (0 : Int), (128 : Int),
                                                                          (129 : Int), (255 : Int), (0 : Int),
                                                                          (127 : Int)].getD
                                                                      (nextR l (nextN l (nextN l (0 : Int)))
                                                                          (6 : Int)).toNat
                                                                      (0 : Int)))].getD
                                                            (1 : Nat) default).6).5 =
                                                    (decR
                                                        ([Rec.mk (0 : Int) (0 : Int) (0 : Int) (0 : Int) false b,
                                                                Rec.mk (0 : Int) (0 : Int) (0 : Int) (0 : Int) false
                                                                  (l_1.set (4 : Nat)
                                                                    ([l_1.getD (4 : Nat) (0 : Int), (128 : Int),
                                                                          (129 : Int), (255 : Int), (0 : Int),
                                                                          (127 : Int)].getD
                                                                      (nextR l (nextN l (nextN l (0 : Int)))
                                                                          (6 : Int)).toNat
                                                                      (0 : Int)))].getD
                                                            (1 : Nat) default).6).5 ∧
                                                  (decR
                                                          ([Rec.mk (0 : Int) (0 : Int) (0 : Int) (0 : Int) false b,
                                                                  Rec.mk (0 : Int) (0 : Int) (0 : Int) (0 : Int) false
                                                                    (l_1.set (4 : Nat)
                                                                      ([l_1.getD (4 : Nat) (0 : Int), (128 : Int),
                                                                            (129 : Int), (255 : Int), (0 : Int),
                                                                            (127 : Int)].getD
                                                                        (nextR l (nextN l (nextN l (0 : Int)))
                                                                            (6 : Int)).toNat
                                                                        (0 : Int)))].getD
                                                              (1 : Nat) default).6).2 =
                                                      (decR
                                                          ([Rec.mk (0 : Int) (0 : Int) (0 : Int) (0 : Int) false b,
                                                                  Rec.mk (0 : Int) (0 : Int) (0 : Int) (0 : Int) false
                                                                    (l_1.set (4 : Nat)
                                                                      ([l_1.getD (4 : Nat) (0 : Int), (128 : Int),
                                                                            (129 : Int), (255 : Int), (0 : Int),
                                                                            (127 : Int)].getD
                                                                        (nextR l (nextN l (nextN l (0 : Int)))
                                                                            (6 : Int)).toNat
                                                                        (0 : Int)))].getD
                                                              (1 : Nat) default).6).2 ∧
                                                    (decR
                                                            ([Rec.mk (0 : Int) (0 : Int) (0 : Int) (0 : Int) false b,
                                                                    Rec.mk (0 : Int) (0 : Int) (0 : Int) (0 : Int) false
                                                                      (l_1.set (4 : Nat)
                                                                        ([l_1.getD (4 : Nat) (0 : Int), (128 : Int),
                                                                              (129 : Int), (255 : Int), (0 : Int),
                                                                              (127 : Int)].getD
                                                                          (nextR l (nextN l (nextN l (0 : Int)))
                                                                              (6 : Int)).toNat
                                                                          (0 : Int)))].getD
                                                                (1 : Nat) default).6).3 =
                                                        (decR
                                                            ([Rec.mk (0 : Int) (0 : Int) (0 : Int) (0 : Int) false b,
                                                                    Rec.mk (0 : Int) (0 : Int) (0 : Int) (0 : Int) false
                                                                      (l_1.set (4 : Nat)
                                                                        ([l_1.getD (4 : Nat) (0 : Int), (128 : Int),
                                                                              (129 : Int), (255 : Int), (0 : Int),
                                                                              (127 : Int)].getD
                                                                          (nextR l (nextN l (nextN l (0 : Int)))
                                                                              (6 : Int)).toNat
                                                                          (0 : Int)))].getD
                                                                (1 : Nat) default).6).3 ∧
                                                      (decR
                                                              ([Rec.mk (0 : Int) (0 : Int) (0 : Int) (0 : Int) false b,
                                                                      Rec.mk (0 : Int) (0 : Int) (0 : Int) (0 : Int) false
                                                                        (l_1.set (4 : Nat)
                                                                          ([l_1.getD (4 : Nat) (0 : Int), (128 : Int),
                                                                                (129 : Int), (255 : Int), (0 : Int),
                                                                                (127 : Int)].getD
                                                                            (nextR l (nextN l (nextN l (0 : Int)))
                                                                                (6 : Int)).toNat
                                                                            (0 : Int)))].getD
                                                                  (1 : Nat) default).6).4 =
                                                          (decR
                                                              ([Rec.mk (0 : Int) (0 : Int) (0 : Int) (0 : Int) false b,
                                                                      Rec.mk (0 : Int) (0 : Int) (0 : Int) (0 : Int) false
                                                                        (l_1.set (4 : Nat)
                                                                          ([l_1.getD (4 : Nat) (0 : Int), (128 : Int),
                                                                                (129 : Int), (255 : Int), (0 : Int),
                                                                                (127 : Int)].getD
                                                                            (nextR l (nextN l (nextN l (0 : Int)))
                                                                                (6 : Int)).toNat
                                                                            (0 : Int)))].getD
                                                                  (1 : Nat) default).6).4 ∧
                                                        (decR
                                                              ([Rec.mk (0 : Int) (0 : Int) (0 : Int) (0 : Int) false b,
                                                                      Rec.mk (0 : Int) (0 : Int) (0 : Int) (0 : Int) false
                                                                        (l_1.set (4 : Nat)
                                                                          ([l_1.getD (4 : Nat) (0 : Int), (128 : Int),
                                                                                (129 : Int), (255 : Int), (0 : Int),
                                                                                (127 : Int)].getD
                                                                            (nextR l (nextN l (nextN l (0 : Int)))
                                                                                (6 : Int)).toNat
                                                                            (0 : Int)))].getD
                                                                  (1 : Nat) default).6).6 =
                                                          (decR
                                                              ([Rec.mk (0 : Int) (0 : Int) (0 : Int) (0 : Int) false b,
                                                                      Rec.mk (0 : Int) (0 : Int) (0 : Int) (0 : Int) false
                                                                        (l_1.set (4 : Nat)
                                                                          ([l_1.getD (4 : Nat) (0 : Int), (128 : Int),
                                                                                (129 : Int), (255 : Int), (0 : Int),
                                                                                (127 : Int)].getD
                                                                            (nextR l (nextN l (nextN l (0 : Int)))
                                                                                (6 : Int)).toNat
                                                                            (0 : Int)))].getD
                                                                  (1 : Nat) default).6).6))
                                          (post (AV.bool false) none)
                                          (br
                                            (decE
                                                ([Rec.mk (0 : Int) (0 : Int) (0 : Int) (0 : Int) false b,
                                                        Rec.mk (0 : Int) (0 : Int) (0 : Int) (0 : Int) false
                                                          (l_1.set (4 : Nat)
                                                            ([l_1.getD (4 : Nat) (0 : Int), (128 : Int), (129 : Int),
                                                                  (255 : Int), (0 : Int), (127 : Int)].getD
                                                              (nextR l (nextN l (nextN l (0 : Int))) (6 : Int)).toNat
                                                              (0 : Int)))].getD
                                                    (1 : Nat) default).6 !=
                                              decE
                                                ([Rec.mk (0 : Int) (0 : Int) (0 : Int) (0 : Int) false b,
                                                        Rec.mk (0 : Int) (0 : Int) (0 : Int) (0 : Int) false
                                                          (l_1.set (4 : Nat)
                                                            ([l_1.getD (4 : Nat) (0 : Int), (128 : Int), (129 : Int),
                                                                  (255 : Int), (0 : Int), (127 : Int)].getD
                                                              (nextR l (nextN l (nextN l (0 : Int))) (6 : Int)).toNat
                                                              (0 : Int)))].getD
                                                    (1 : Nat) default).6)
                                            (post (AV.bool false) none) (post (AV.bool true) none))))))))) ∧
                          ∀ (K : AS → Prop),
                            chk
                                (decide
                                  ((0 : Int) < (6 : Int) ∧
                                    (6 : Int) ≤ (1000000 : Int) ∧
                                      (0 : Int) ≤ nextN l (nextN l (0 : Int)) ∧
                                        nextN l (nextN l (0 : Int)) ≤ @Nat.cast Int _ l.length))
                                (chk
                                  (inB (nextR l (nextN l (nextN l (0 : Int))) (6 : Int))
                                    [l_1.getD (4 : Nat) (0 : Int), (128 : Int), (129 : Int), (255 : Int), (0 : Int),
                                        (127 : Int)].length)
                                  (chk
                                    (decide
                                      ((nextR l (nextN l (nextN l (0 : Int))) (6 : Int)).toNat <
                                        [l_1.getD (4 : Nat) (0 : Int), (128 : Int), (129 : Int), (255 : Int), (0 : Int),
                                            (127 : Int)].length))
                                    (chk (inB (4 : Int) l_1.length)
                                      (chk (decide ((4 : Nat) < l_1.length))
                                        (K
                                          (AS.mk
                                            [((0 : Nat), AV.ints false IntKind.u8 b),
                                              ((1 : Nat), AV.ints false IntKind.i64 l), ((4 : Nat), AV.bool false),
                                              ((5 : Nat), AV.ptr (18 : Nat) (0 : Nat) (0 : Nat)),
                                              ((6 : Nat), AV.ownf (27 : Nat)), ((13 : Nat), AV.ints false IntKind.u8 b),
                                              ((14 : Nat), AV.int IntKind.i64 (@Nat.cast Int _ b.length)),
                                              ((15 : Nat), AV.bool false), ((17 : Nat), AV.ints false IntKind.i64 l),
                                              ((18 : Nat), AV.ptr (18 : Nat) (0 : Nat) (0 : Nat)),
                                              ((19 : Nat), AV.ptr (18 : Nat) (0 : Nat) (0 : Nat)),
                                              ((20 : Nat), AV.int IntKind.i64 (nextR l (0 : Int) (99 : Int))),
                                              ((21 : Nat), AV.ownf (21 : Nat)),
                                              ((22 : Nat), AV.ptr (18 : Nat) (0 : Nat) (0 : Nat)),
                                              ((23 : Nat), AV.int IntKind.i64 (nextR l (nextN l (0 : Int)) (5 : Int))),
                                              ((24 : Nat),
                                                AV.ptr (21 : Nat) (nextR l (nextN l (0 : Int)) (5 : Int)).toNat (0 : Nat)),
                                              ((25 : Nat),
                                                AV.int IntKind.i64
                                                  ([(0 : Int), (0 : Int), (0 : Int), (1 : Int), (-1 : Int)].getD
                                                    (nextR l (nextN l (0 : Int)) (5 : Int)).toNat (0 : Int))),
                                              ((26 : Nat),
                                                AV.int IntKind.i64
                                                  (IntKind.i64.wrap
                                                    ((64 : Int) +
                                                      [(0 : Int), (0 : Int), (0 : Int), (1 : Int), (-1 : Int)].getD
                                                        (nextR l (nextN l (0 : Int)) (5 : Int)).toNat (0 : Int)))),
                                              ((27 : Nat), AV.ownf (27 : Nat)), ((28 : Nat), AV.ownf (27 : Nat)),
                                              ((29 : Nat), AV.int IntKind.i64 (@Nat.cast Int _ l_1.length)),
                                              ((30 : Nat), AV.bool true), ((31 : Nat), AV.ownf (27 : Nat)),
                                              ((32 : Nat), AV.ownf (27 : Nat)),
                                              ((33 : Nat), AV.ptr (27 : Nat) (4 : Nat) (0 : Nat)),
                                              ((34 : Nat), AV.int IntKind.u8 (l_1.getD (4 : Nat) (0 : Int))),
                                              ((35 : Nat), AV.ownf (35 : Nat)),
                                              ((36 : Nat), AV.ptr (18 : Nat) (0 : Nat) (0 : Nat)),
                                              ((37 : Nat),
                                                AV.int IntKind.i64 (nextR l (nextN l (nextN l (0 : Int))) (6 : Int))),
                                              ((38 : Nat),
                                                AV.ptr (35 : Nat) (nextR l (nextN l (nextN l (0 : Int))) (6 : Int)).toNat
                                                  (0 : Nat)),
                                              ((39 : Nat),
                                                AV.int IntKind.u8
                                                  ([l_1.getD (4 : Nat) (0 : Int), (128 : Int), (129 : Int), (255 : Int),
                                                        (0 : Int), (127 : Int)].getD
                                                    (nextR l (nextN l (nextN l (0 : Int))) (6 : Int)).toNat (0 : Int))),
                                              ((40 : Nat), AV.ptr (27 : Nat) (4 : Nat) (0 : Nat))]
                                            [((18 : Nat),
                                                AV.box (83 : Nat)
                                                  [AV.ints false IntKind.i64 l,
                                                    AV.int IntKind.i64 (nextN l (nextN l (nextN l (0 : Int))))]),
                                              ((21 : Nat),
                                                AV.lini (3 : Nat) IntKind.i64
                                                  [(0 : Int), (0 : Int), (0 : Int), (1 : Int), (-1 : Int)]),
                                              ((27 : Nat),
                                                AV.lini (5 : Nat) IntKind.u8
                                                  (l_1.set (4 : Nat)
                                                    ([l_1.getD (4 : Nat) (0 : Int), (128 : Int), (129 : Int), (255 : Int),
                                                          (0 : Int), (127 : Int)].getD
                                                      (nextR l (nextN l (nextN l (0 : Int))) (6 : Int)).toNat (0 : Int)))),
                                              ((35 : Nat),
                                                AV.lini (5 : Nat) IntKind.u8
                                                  [l_1.getD (4 : Nat) (0 : Int), (128 : Int), (129 : Int), (255 : Int),
                                                    (0 : Int), (127 : Int)])])))))) →
                              chk
                                (decide
                                  ((0 : Int) < (6 : Int) ∧
                                    (6 : Int) ≤ (1000000 : Int) ∧
                                      (0 : Int) ≤ nextN l (nextN l (0 : Int)) ∧
                                        nextN l (nextN l (0 : Int)) ≤ @Nat.cast Int _ l.length))
                                (chk
                                  (inB (nextR l (nextN l (nextN l (0 : Int))) (6 : Int))
                                    [l_1.getD (4 : Nat) (0 : Int), (128 : Int), (129 : Int), (255 : Int), (0 : Int),
                                        (127 : Int)].length)
                                  (chk
                                    (decide
                                      ((nextR l (nextN l (nextN l (0 : Int))) (6 : Int)).toNat <
                                        [l_1.getD (4 : Nat) (0 : Int), (128 : Int), (129 : Int), (255 : Int), (0 : Int),
                                            (127 : Int)].length))
                                    (chk (inB (4 : Int) l_1.length)
                                      (chk (decide ((4 : Nat) < l_1.length))
                                        (K
                                          (AS.mk
                                            [((0 : Nat), AV.ints false IntKind.u8 b),
                                              ((1 : Nat), AV.ints false IntKind.i64 l), ((4 : Nat), AV.bool false),
                                              ((5 : Nat), AV.ptr (18 : Nat) (0 : Nat) (0 : Nat)),
                                              ((6 : Nat), AV.ownf (27 : Nat)), ((13 : Nat), AV.ints false IntKind.u8 b),
                                              ((14 : Nat), AV.int IntKind.i64 (@Nat.cast Int _ b.length)),
                                              ((15 : Nat), AV.bool false), ((17 : Nat), AV.ints false IntKind.i64 l),
                                              ((18 : Nat), AV.ptr (18 : Nat) (0 : Nat) (0 : Nat)),
                                              ((19 : Nat), AV.ptr (18 : Nat) (0 : Nat) (0 : Nat)),
                                              ((20 : Nat), AV.int IntKind.i64 (nextR l (0 : Int) (99 : Int))),
                                              ((21 : Nat), AV.ownf (21 : Nat)),
                                              ((22 : Nat), AV.ptr (18 : Nat) (0 : Nat) (0 : Nat)),
                                              ((23 : Nat), AV.int IntKind.i64 (nextR l (nextN l (0 : Int)) (5 : Int))),
                                              ((24 : Nat),
                                                AV.ptr (21 : Nat) (nextR l (nextN l (0 : Int)) (5 : Int)).toNat (0 : Nat)),
                                              ((25 : Nat),
                                                AV.int IntKind.i64
                                                  ([(0 : Int), (0 : Int), (0 : Int), (1 : Int), (-1 : Int)].getD
                                                    (nextR l (nextN l (0 : Int)) (5 : Int)).toNat (0 : Int))),
                                              ((26 : Nat),
                                                AV.int IntKind.i64
                                                  (IntKind.i64.wrap
                                                    ((64 : Int) +
                                                      [(0 : Int), (0 : Int), (0 : Int), (1 : Int), (-1 : Int)].getD
                                                        (nextR l (nextN l (0 : Int)) (5 : Int)).toNat (0 : Int)))),
                                              ((27 : Nat), AV.ownf (27 : Nat)), ((28 : Nat), AV.ownf (27 : Nat)),
                                              ((29 : Nat), AV.int IntKind.i64 (@Nat.cast Int _ l_1.length)),
                                              ((30 : Nat), AV.bool true), ((31 : Nat), AV.ownf (27 : Nat)),
                                              ((32 : Nat), AV.ownf (27 : Nat)),
                                              ((33 : Nat), AV.ptr (27 : Nat) (4 : Nat) (0 : Nat)),
                                              ((34 : Nat), AV.int IntKind.u8 (l_1.getD (4 : Nat) (0 : Int))),
                                              ((35 : Nat), AV.ownf (35 : Nat)),
                                              ((36 : Nat), AV.ptr (18 : Nat) (0 : Nat) (0 : Nat)),
                                              ((37 : Nat),
                                                AV.int IntKind.i64 (nextR l (nextN l (nextN l (0 : Int))) (6 : Int))),
                                              ((38 : Nat),
                                                AV.ptr (35 : Nat) (nextR l (nextN l (nextN l (0 : Int))) (6 : Int)).toNat
                                                  (0 : Nat)),
                                              ((39 : Nat),
                                                AV.int IntKind.u8
                                                  ([l_1.getD (4 : Nat) (0 : Int), (128 : Int), (129 : Int), (255 : Int),
                                                        (0 : Int), (127 : Int)].getD
                                                    (nextR l (nextN l (nextN l (0 : Int))) (6 : Int)).toNat (0 : Int))),
                                              ((40 : Nat), AV.ptr (27 : Nat) (4 : Nat) (0 : Nat))]
                                            [((18 : Nat),
                                                AV.box (83 : Nat)
                                                  [AV.ints false IntKind.i64 l,
                                                    AV.int IntKind.i64 (nextN l (nextN l (nextN l (0 : Int))))]),
                                              ((21 : Nat),
                                                AV.lini (3 : Nat) IntKind.i64
                                                  [(0 : Int), (0 : Int), (0 : Int), (1 : Int), (-1 : Int)]),
                                              ((27 : Nat),
                                                AV.lini (5 : Nat) IntKind.u8
                                                  (l_1.set (4 : Nat)
                                                    ([l_1.getD (4 : Nat) (0 : Int), (128 : Int), (129 : Int), (255 : Int),
                                                          (0 : Int), (127 : Int)].getD
                                                      (nextR l (nextN l (nextN l (0 : Int))) (6 : Int)).toNat (0 : Int)))),
                                              ((35 : Nat),
                                                AV.lini (5 : Nat) IntKind.u8
                                                  [l_1.getD (4 : Nat) (0 : Int), (128 : Int), (129 : Int), (255 : Int),
                                                    (0 : Int), (127 : Int)])])))))))))
                    (br
                      (!decide
                          ((decR
                                  ([Rec.mk (0 : Int) (0 : Int) (0 : Int) (0 : Int) false b,
                                          Rec.mk (0 : Int) (0 : Int) (0 : Int) (0 : Int) false l_1].getD
                                      (0 : Nat) default).6).1 =
                              (decR
                                  ([Rec.mk (0 : Int) (0 : Int) (0 : Int) (0 : Int) false b,
                                          Rec.mk (0 : Int) (0 : Int) (0 : Int) (0 : Int) false l_1].getD
                                      (0 : Nat) default).6).1 ∧
                            (decR
                                    ([Rec.mk (0 : Int) (0 : Int) (0 : Int) (0 : Int) false b,
                                            Rec.mk (0 : Int) (0 : Int) (0 : Int) (0 : Int) false l_1].getD
                                        (0 : Nat) default).6).5 =
                                (decR
                                    ([Rec.mk (0 : Int) (0 : Int) (0 : Int) (0 : Int) false b,
                                            Rec.mk (0 : Int) (0 : Int) (0 : Int) (0 : Int) false l_1].getD
                                        (0 : Nat) default).6).5 ∧
                              (decR
                                      ([Rec.mk (0 : Int) (0 : Int) (0 : Int) (0 : Int) false b,
                                              Rec.mk (0 : Int) (0 : Int) (0 : Int) (0 : Int) false l_1].getD
                                          (0 : Nat) default).6).2 =
                                  (decR
                                      ([Rec.mk (0 : Int) (0 : Int) (0 : Int) (0 : Int) false b,
                                              Rec.mk (0 : Int) (0 : Int) (0 : Int) (0 : Int) false l_1].getD
                                          (0 : Nat) default).6).2 ∧
                                (decR
                                        ([Rec.mk (0 : Int) (0 : Int) (0 : Int) (0 : Int) false b,
                                                Rec.mk (0 : Int) (0 : Int) (0 : Int) (0 : Int) false l_1].getD
                                            (0 : Nat) default).6).3 =
                                    (decR
                                        ([Rec.mk (0 : Int) (0 : Int) (0 : Int) (0 : Int) false b,
                                                Rec.mk (0 : Int) (0 : Int) (0 : Int) (0 : Int) false l_1].getD
                                            (0 : Nat) default).6).3 ∧
                                  (decR
                                          ([Rec.mk (0 : Int) (0 : Int) (0 : Int) (0 : Int) false b,
                                                  Rec.mk (0 : Int) (0 : Int) (0 : Int) (0 : Int) false l_1].getD
                                              (0 : Nat) default).6).4 =
                                      (decR
                                          ([Rec.mk (0 : Int) (0 : Int) (0 : Int) (0 : Int) false b,
                                                  Rec.mk (0 : Int) (0 : Int) (0 : Int) (0 : Int) false l_1].getD
                                              (0 : Nat) default).6).4 ∧
                                    (decR
                                          ([Rec.mk (0 : Int) (0 : Int) (0 : Int) (0 : Int) false b,
                                                  Rec.mk (0 : Int) (0 : Int) (0 : Int) (0 : Int) false l_1].getD
                                              (0 : Nat) default).6).6 =
                                      (decR
                                          ([Rec.mk (0 : Int) (0 : Int) (0 : Int) (0 : Int) false b,
                                                  Rec.mk (0 : Int) (0 : Int) (0 : Int) (0 : Int) false l_1].getD
                                              (0 : Nat) default).6).6))
                      (post (AV.bool false) none)
                      (br
                        (decE
                            ([Rec.mk (0 : Int) (0 : Int) (0 : Int) (0 : Int) false b,
                                    Rec.mk (0 : Int) (0 : Int) (0 : Int) (0 : Int) false l_1].getD
                                (0 : Nat) default).6 !=
                          decE
                            ([Rec.mk (0 : Int) (0 : Int) (0 : Int) (0 : Int) false b,
                                    Rec.mk (0 : Int) (0 : Int) (0 : Int) (0 : Int) false l_1].getD
                                (0 : Nat) default).6)
                        (post (AV.bool false) none)
                        (br
                          (!decide
                              ((decR
                                      ([Rec.mk (0 : Int) (0 : Int) (0 : Int) (0 : Int) false b,
                                              Rec.mk (0 : Int) (0 : Int) (0 : Int) (0 : Int) false l_1].getD
                                          (1 : Nat) default).6).1 =
                                  (decR
                                      ([Rec.mk (0 : Int) (0 : Int) (0 : Int) (0 : Int) false b,
                                              Rec.mk (0 : Int) (0 : Int) (0 : Int) (0 : Int) false l_1].getD
                                          (1 : Nat) default).6).1 ∧
                                (decR
                                        ([Rec.mk (0 : Int) (0 : Int) (0 : Int) (0 : Int) false b,
                                                Rec.mk (0 : Int) (0 : Int) (0 : Int) (0 : Int) false l_1].getD
                                            (1 : Nat) default).6).5 =
                                    (decR
                                        ([Rec.mk (0 : Int) (0 : Int) (0 : Int) (0 : Int) false b,
                                                Rec.mk (0 : Int) (0 : Int) (0 : Int) (0 : Int) false l_1].getD
                                            (1 : Nat) default).6).5 ∧
                                  (decR
                                          ([Rec.mk (0 : Int) (0 : Int) (0 : Int) (0 : Int) false b,
                                                  Rec.mk (0 : Int) (0 : Int) (0 : Int) (0 : Int) false l_1].getD
                                              (1 : Nat) default).6).2 =
                                      (decR
                                          ([Rec.mk (0 : Int) (0 : Int) (0 : Int) (0 : Int) false b,
                                                  Rec.mk (0 : Int) (0 : Int) (0 : Int) (0 : Int) false l_1].getD
                                              (1 : Nat) default).6).2 ∧
                                    (decR
                                            ([Rec.mk (0 : Int) (0 : Int) (0 : Int) (0 : Int) false b,
                                                    Rec.mk (0 : Int) (0 : Int) (0 : Int) (0 : Int) false l_1].getD
                                                (1 : Nat) default).6).3 =
                                        (decR
                                            ([Rec.mk (0 : Int) (0 : Int) (0 : Int) (0 : Int) false b,
                                                    Rec.mk (0 : Int) (0 : Int) (0 : Int) (0 : Int) false l_1].getD
                                                (1 : Nat) default).6).3 ∧
                                      (decR
                                              ([Rec.mk (0 : Int) (0 : Int) (0 : Int) (0 : Int) false b,
                                                      Rec.mk (0 : Int) (0 : Int) (0 : Int) (0 : Int) false l_1].getD
                                                  (1 : Nat) default).6).4 =
                                          (decR
                                              ([Rec.mk (0 : Int) (0 : Int) (0 : Int) (0 : Int) false b,
                                                      Rec.mk (0 : Int) (0 : Int) (0 : Int) (0 : Int) false l_1].getD
                                                  (1 : Nat) default).6).4 ∧
                                        (decR
                                              ([Rec.mk (0 : Int) (0 : Int) (0 : Int) (0 : Int) false b,
                                                      Rec.mk (0 : Int) (0 : Int) (0 : Int) (0 : Int) false l_1].getD
                                                  (1 : Nat) default).6).6 =
                                          (decR
                                              ([Rec.mk (0 : Int) (0 : Int) (0 : Int) (0 : Int) false b,
                                                      Rec.mk (0 : Int) (0 : Int) (0 : Int) (0 : Int) false l_1].getD
                                                  (1 : Nat) default).6).6))
                          (post (AV.bool false) none)
                          (br
                            (decE
                                ([Rec.mk (0 : Int) (0 : Int) (0 : Int) (0 : Int) false b,
                                        Rec.mk (0 : Int) (0 : Int) (0 : Int) (0 : Int) false l_1].getD
                                    (1 : Nat) default).6 !=
                              decE
                                ([Rec.mk (0 : Int) (0 : Int) (0 : Int) (0 : Int) false b,
                                        Rec.mk (0 : Int) (0 : Int) (0 : Int) (0 : Int) false l_1].getD
                                    (1 : Nat) default).6)
                            (post (AV.bool false) none) (post (AV.bool true) none)))))))))) := by kernel_rfl
theorem p6_0 (b l : List Int) (post : AV → Option AV → Prop) (hin : InRL [.ints false .u8 b, .ints false .i64 l]) (hie : InRO none) (h : post (.bool true) none) : Ok (runF c6 pm6 Proofs.Try.f6 [.ints false .u8 b, .ints false .i64 l] none (post)) := by
  refine ⟨?_⟩
  rw [t6_0]
  refine br_dec (fun _ => h) (fun _ => ?_)
  have a0 : 0 ≤ (0 : Int) ∧ (0 : Int) ≤ l.length := by omega
  have a1 := nextN_rng a0
  have a2 := nextN_rng a1
  have c : ∀ x m : Int, 0 ≤ x ∧ x ≤ l.length → 0 < m ∧ m ≤ 1000000 → decide (0 < m ∧ m ≤ 1000000 ∧ 0 ≤ x ∧ x ≤ l.length) = true := fun x m hx hm => decide_eq_true ⟨hm.1, hm.2, hx.1, hx.2⟩
  have e5 : ∀ n, inB (nextR l n 5) 5 = true := fun n => (nextR_in l n 5 5 (by omega) rfl).1
  have f5 : ∀ n, decide ((nextR l n 5).toNat < 5) = true := fun n => (nextR_in l n 5 5 (by omega) rfl).2
  have e6 : ∀ n, inB (nextR l n 6) 6 = true := fun n => (nextR_in l n 6 6 (by omega) rfl).1
  have f6 : ∀ n, decide ((nextR l n 6).toNat < 6) = true := fun n => (nextR_in l n 6 6 (by omega) rfl).2
  simp only [c _ 5 a1 (by decide), e5, f5, chk_true]
  intro x hx hl
  have hlen : 63 ≤ x.length := by
    have := getD_all (P := fun z => -1 ≤ z ∧ z ≤ 1) (L := [0, 0, 0, 1, -1]) (by decide) (by decide) (nextR l (nextN l 0) 5).toNat
    rw [hl, wrap_i64 (by omega) (by omega)]
    unfold clampN
    omega
  refine br_dec (fun _ => ?_) (fun h4 => absurd (show (x.length : Int) > 4 by omega) h4)
  have i4 : inB 4 x.length = true := by simp only [inB, Bool.and_eq_true, decide_eq_true_eq]; omega
  have d4 : decide (4 < x.length) = true := decide_eq_true (by omega)
  simp only [List.length_cons, List.length_nil, Nat.zero_add, Nat.reduceAdd, i4, d4, c _ 6 a2 (by decide), e6, f6, chk_true, imp_self, implies_true, and_true, and_self, decide_true, Bool.not_true, bne_self_eq_false, br_false]
  exact h
theorem k6 : Keeps Proofs.Try.prog 6 S6 := by
  refine ⟨?_, Proofs.Try.f6, by kernel_rfl, by kernel_rfl, by kernel_rfl⟩
  intro args e post h
  unfold S6 at h
  split at h
  · refine Spec.inR fun hin hie => fun_ok' (c := c6) gam_ok (l := u6) a6 rfl mixed_ok (fn := Proofs.Try.f6) (show Proofs.Try.prog.funcs[6]? = some Proofs.Try.f6 by kernel_rfl) (by kernel_rfl) (ls := []) rfl (.inl rfl) trivial (pm := pm6) (by simp [c6]) (by rintro ⟨t, l, h⟩; cases h) ?_
    exact p6_0 _ _ _ hin hie h
  · exact h.elim
end Go.Proofs.Ytokeanadhihlfaa.V
