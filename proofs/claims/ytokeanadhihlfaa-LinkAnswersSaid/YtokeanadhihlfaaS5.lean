import Derived.Test.YtokeanadhihlfaaPlans
import Derived.Test.YtokeanadhihlfaaMB
import Derived.Test.YtokeanadhihlfaaProg
import Derived.Test.YtokeanadhihlfaaS0
import Derived.Test.YtokeanadhihlfaaS1
import Derived.Test.YtokeanadhihlfaaS2
import Derived.Test.YtokeanadhihlfaaS3
import Derived.Test.YtokeanadhihlfaaS4
import Derived.Test.YtokeanadhihlfaaB1
import Derived.KernelRfl
set_option linter.all false
set_option maxHeartbeats 1000000
namespace Go.Proofs.Ytokeanadhihlfaa.V
open Go
theorem getD_all {P : Int → Prop} {L : List Int} (h : ∀ x ∈ L, P x) (h0 : P 0) (k : Nat) : P (L.getD k 0) := by
  by_cases hk : k < L.length
  · simp only [List.getD, List.getElem?_eq_getElem hk, Option.getD_some]
    exact h _ (List.getElem_mem hk)
  · have : L[k]? = none := List.getElem?_eq_none (by omega)
    rw [List.getD, this]
    exact h0
theorem clamp60 {L : List Int} (h : ∀ x ∈ L, x ≤ 60) (k : Nat) : clampN (L.getD k 0) ≤ 60 := by
  have := getD_all (P := fun x => x ≤ 60) h (by omega) k
  unfold clampN
  omega
def pm21 : Pm := ⟨[], .no, [.s]⟩
def u21 : List (Nat × Tr) := [(19, S19), (23, S23), (28, S28)]
theorem a21 : AllKeep Proofs.Try.prog u21 := ⟨k19, k23, k28, trivial⟩

def c21 : Cfg := { n := 56, Γ := Gam, C := ofL u21, pm := pmL [(19, pm19), (23, pm23), (28, pm28)], plan := noP, L := lpL [], unroll := nmL [], keep := kpL [] }
def S21 : Tr
  | [], none, post => post (.bool true) none
  | _, _, _ => False
theorem t21_0  (post : AV → Option AV → Prop) : runF c21 pm21 Proofs.Try.f21 [] none post = (post (AV.bool true) none) := by kernel_rfl
theorem p21_0  (post : AV → Option AV → Prop) (hin : InRL []) (hie : InRO none) (h : post (.bool true) none) : Ok (runF c21 pm21 Proofs.Try.f21 [] none (post)) := by
  refine ⟨?_⟩
  rw [t21_0]
  exact h
theorem k21 : Keeps Proofs.Try.prog 21 S21 := by
  refine ⟨?_, Proofs.Try.f21, by kernel_rfl, by kernel_rfl, by kernel_rfl⟩
  intro args e post h
  unfold S21 at h
  split at h
  · refine Spec.inR fun hin hie => fun_ok' (c := c21) gam_ok (l := u21) a21 rfl mixed_ok (fn := Proofs.Try.f21) (show Proofs.Try.prog.funcs[21]? = some Proofs.Try.f21 by kernel_rfl) (by kernel_rfl) (ls := []) rfl (.inl rfl) trivial (pm := pm21) (by simp [c21]) (by rintro ⟨t, l, h⟩; cases h) ?_
    exact p21_0  _ hin hie h
  · exact h.elim
def pm34 : Pm := ⟨[pkS], .no, [.s]⟩
def u34 : List (Nat × Tr) := [(36, S36), (56, S56)]
theorem a34 : AllKeep Proofs.Try.prog u34 := ⟨k36, k56, trivial⟩

def c34 : Cfg := { n := 27, Γ := Gam, C := ofL u34, pm := pmL [(36, pm36), (56, pm56)], plan := noP, L := lpL [], unroll := nmL [], keep := kpL [] }
def S34 : Tr
  | [.agg [.int .u32 a, .bool ff, .int .i64 b, .int .i64 c, .int .i64 d, .ints false .u8 s]], none, post => post (.bool true) none
  | _, _, _ => False
theorem t34_0 (a b c d : Int) (ff : Bool) (s : List Int) (post : AV → Option AV → Prop) : runF c34 pm34 Proofs.Try.f34 [.agg [.int .u32 a, .bool ff, .int .i64 b, .int .i64 c, .int .i64 d, .ints false .u8 s]] none post = (br (strEq (encL a ff b c d s) (encL a ff b c d s))
     (post (AV.bool (chkE ff b c d s.length == chkE ff b c d s.length)) none) (post (AV.bool false) none)) := by kernel_rfl
theorem p34_0 (a b c d : Int) (ff : Bool) (s : List Int) (post : AV → Option AV → Prop) (hin : InRL [.agg [.int .u32 a, .bool ff, .int .i64 b, .int .i64 c, .int .i64 d, .ints false .u8 s]]) (hie : InRO none) (h : post (.bool true) none) : Ok (runF c34 pm34 Proofs.Try.f34 [.agg [.int .u32 a, .bool ff, .int .i64 b, .int .i64 c, .int .i64 d, .ints false .u8 s]] none (post)) := by
  refine ⟨?_⟩
  rw [t34_0]
  rw [strEq_refl, show (chkE ff b c d s.length == chkE ff b c d s.length) = true by simp]
  exact h
theorem k34 : Keeps Proofs.Try.prog 34 S34 := by
  refine ⟨?_, Proofs.Try.f34, by kernel_rfl, by kernel_rfl, by kernel_rfl⟩
  intro args e post h
  unfold S34 at h
  split at h
  · refine Spec.inR fun hin hie => fun_ok' (c := c34) gam_ok (l := u34) a34 rfl mixed_ok (fn := Proofs.Try.f34) (show Proofs.Try.prog.funcs[34]? = some Proofs.Try.f34 by kernel_rfl) (by kernel_rfl) (ls := []) rfl (.inl rfl) trivial (pm := pm34) (by simp [c34]) (by rintro ⟨t, l, h⟩; cases h) ?_
    exact p34_0 _ _ _ _ _ _ _ hin hie h
  · exact h.elim
def pm35 : Pm := ⟨[.p], .bx 0, [pkS]⟩
def u35 : List (Nat × Tr) := [(27, S27), (30, S30)]
theorem a35 : AllKeep Proofs.Try.prog u35 := ⟨k27, k30, trivial⟩

def c35 : Cfg := { n := 53, Γ := Gam, C := ofL u35, pm := pmL [(27, pm27), (30, pm30)], plan := plan35, L := lpL [], unroll := nmL [], keep := kpL [] }
def S35 : Tr
  | [.ptr 1000 0 0], some (.box 83 [.ints false .i64 l, .int .i64 n]), post => chk (decide (0 ≤ n ∧ n ≤ l.length)) (∀ (r : Rec) (n' : Int), RngR 0 r → r.s.length ≤ 60 → 0 ≤ n' ∧ n' ≤ l.length → post (pkV r) (some (.box 83 [.ints false .i64 l, .int .i64 n'])))
  | _, _, _ => False
theorem t35_0 (l : List Int) (n : Int) (post : AV → Option AV → Prop) : runF c35 pm35 Proofs.Try.f35 [.ptr 1000 0 0] (some (.box 83 [.ints false .i64 l, .int .i64 n])) post = ((chk (decide ((0 : Int) < (8 : Int) ∧ (8 : Int) ≤ (1000000 : Int) ∧ (0 : Int) ≤ n ∧ n ≤ @Nat.cast Int _ l.length))
     (chk (inB (nextR l n (8 : Int)) (8 : Nat))
     (chk (decide ((nextR l n (8 : Int)).toNat < (8 : Nat)))
     (chk
     (decide
     ((0 : Int) < (2 : Int) ∧
     (2 : Int) ≤ (1000000 : Int) ∧ (0 : Int) ≤ nextN l n ∧ nextN l n ≤ @Nat.cast Int _ l.length))
     (br (nextR l (nextN l n) (2 : Int) == (1 : Int))
     (chk
     (decide
     ((0 : Int) < (10 : Int) ∧
     (10 : Int) ≤ (1000000 : Int) ∧
     (0 : Int) ≤ nextN l (nextN l n) ∧ nextN l (nextN l n) ≤ @Nat.cast Int _ l.length))
     (chk (inB (nextR l (nextN l (nextN l n)) (10 : Int)) (10 : Nat))
     (chk (decide ((nextR l (nextN l (nextN l n)) (10 : Int)).toNat < (10 : Nat)))
     (chk
     (decide
     ((0 : Int) < (10 : Int) ∧
     (10 : Int) ≤ (1000000 : Int) ∧
     (0 : Int) ≤ nextN l (nextN l (nextN l n)) ∧
     nextN l (nextN l (nextN l n)) ≤ @Nat.cast Int _ l.length))
     (chk (inB (nextR l (nextN l (nextN l (nextN l n))) (10 : Int)) (10 : Nat))
     (chk (decide ((nextR l (nextN l (nextN l (nextN l n))) (10 : Int)).toNat < (10 : Nat)))
     (chk
     (decide
     ((0 : Int) < (9 : Int) ∧
     (9 : Int) ≤ (1000000 : Int) ∧
     (0 : Int) ≤ nextN l (nextN l (nextN l (nextN l n))) ∧
     nextN l (nextN l (nextN l (nextN l n))) ≤ @Nat.cast Int _ l.length))
     (chk
     (decide
     ((0 : Int) < (5 : Int) ∧
     (5 : Int) ≤ (1000000 : Int) ∧
     (0 : Int) ≤ nextN l (nextN l (nextN l (nextN l (nextN l n)))) ∧
     nextN l (nextN l (nextN l (nextN l (nextN l n)))) ≤ @Nat.cast Int _ l.length))
     (chk
     (inB (nextR l (nextN l (nextN l (nextN l (nextN l (nextN l n))))) (5 : Int))
     (5 : Nat))
     (chk
     (decide
     ((nextR l (nextN l (nextN l (nextN l (nextN l (nextN l n))))) (5 : Int)).toNat <
     (5 : Nat)))
     (∀ (l_1 : List Int),
     RngL IntKind.u8 l_1 →
     l_1.length =
     clampN
     ([(57 : Int), (57 : Int), (8 : Int), (0 : Int), (58 : Int)].getD
     (nextR l (nextN l (nextN l (nextN l (nextN l (nextN l n)))))
     (5 : Int)).toNat
     (0 : Int)) →
     post
     (AV.agg
     [AV.int IntKind.u32
     ([(1 : Int), (2 : Int), (1 : Int), (3 : Int), (0 : Int),
     (4294967295 : Int), (33 : Int), (1 : Int)].getD
     (nextR l n (8 : Int)).toNat (0 : Int)),
     AV.bool (nextR l (nextN l n) (2 : Int) == (1 : Int)),
     AV.int IntKind.i64
     ([(3 : Int), (1 : Int), (6 : Int), (17 : Int), (63 : Int), (1 : Int),
     (0 : Int), (127 : Int), (128 : Int), (-1 : Int)].getD
     (nextR l (nextN l (nextN l n)) (10 : Int)).toNat (0 : Int)),
     AV.int IntKind.i64
     ([(0 : Int), (8 : Int), (57 : Int), (58 : Int), (4096 : Int),
     (4097 : Int), (65535 : Int), (65536 : Int), (-1 : Int),
     (117 : Int)].getD
     (nextR l (nextN l (nextN l (nextN l n))) (10 : Int)).toNat
     (0 : Int)),
     AV.int IntKind.i64 (0 : Int), AV.ints false IntKind.u8 l_1])
     (some
     (AV.box (83 : Nat)
     [AV.ints false IntKind.i64 l,
     AV.int IntKind.i64
     (nextN l
     (nextN l (nextN l (nextN l (nextN l (nextN l n))))))])))))))))))))
     (chk
     (decide
     ((0 : Int) < (7 : Int) ∧
     (7 : Int) ≤ (1000000 : Int) ∧
     (0 : Int) ≤ nextN l (nextN l n) ∧ nextN l (nextN l n) ≤ @Nat.cast Int _ l.length))
     (chk (inB (nextR l (nextN l (nextN l n)) (7 : Int)) (7 : Nat))
     (chk (decide ((nextR l (nextN l (nextN l n)) (7 : Int)).toNat < (7 : Nat)))
     (chk
     (decide
     ((0 : Int) < (9 : Int) ∧
     (9 : Int) ≤ (1000000 : Int) ∧
     (0 : Int) ≤ nextN l (nextN l (nextN l n)) ∧
     nextN l (nextN l (nextN l n)) ≤ @Nat.cast Int _ l.length))
     (chk
     (decide
     ((0 : Int) < (5 : Int) ∧
     (5 : Int) ≤ (1000000 : Int) ∧
     (0 : Int) ≤ nextN l (nextN l (nextN l (nextN l n))) ∧
     nextN l (nextN l (nextN l (nextN l n))) ≤ @Nat.cast Int _ l.length))
     (chk (inB (nextR l (nextN l (nextN l (nextN l (nextN l n)))) (5 : Int)) (5 : Nat))
     (chk
     (decide ((nextR l (nextN l (nextN l (nextN l (nextN l n)))) (5 : Int)).toNat < (5 : Nat)))
     (∀ (l_1 : List Int),
     RngL IntKind.u8 l_1 →
     l_1.length =
     clampN
     ([(59 : Int), (59 : Int), (1 : Int), (0 : Int), (60 : Int)].getD
     (nextR l (nextN l (nextN l (nextN l (nextN l n)))) (5 : Int)).toNat
     (0 : Int)) →
     post
     (AV.agg
     [AV.int IntKind.u32
     ([(1 : Int), (2 : Int), (1 : Int), (3 : Int), (0 : Int), (4294967295 : Int),
     (33 : Int), (1 : Int)].getD
     (nextR l n (8 : Int)).toNat (0 : Int)),
     AV.bool (nextR l (nextN l n) (2 : Int) == (1 : Int)),
     AV.int IntKind.i64 (0 : Int), AV.int IntKind.i64 (0 : Int),
     AV.int IntKind.i64
     ([(0 : Int), (1 : Int), (0 : Int), (2 : Int), (127 : Int), (128 : Int),
     (-1 : Int)].getD
     (nextR l (nextN l (nextN l n)) (7 : Int)).toNat (0 : Int)),
     AV.ints false IntKind.u8 l_1])
     (some
     (AV.box (83 : Nat)
     [AV.ints false IntKind.i64 l,
     AV.int IntKind.i64
     (nextN l (nextN l (nextN l (nextN l (nextN l n)))))]))))))))))) ∧
     ∀ (K : AS → Prop),
     chk
     (decide
     ((0 : Int) < (2 : Int) ∧
     (2 : Int) ≤ (1000000 : Int) ∧ (0 : Int) ≤ nextN l n ∧ nextN l n ≤ @Nat.cast Int _ l.length))
     (K
     (AS.mk
     [((0 : Nat), AV.ptr (1000 : Nat) (0 : Nat) (0 : Nat)),
     ((2 : Nat), AV.ptr (2 : Nat) (0 : Nat) (0 : Nat)),
     ((3 : Nat), AV.ptr (3 : Nat) (0 : Nat) (0 : Nat)), ((4 : Nat), AV.ownf (4 : Nat)),
     ((5 : Nat), AV.ptr (1000 : Nat) (0 : Nat) (0 : Nat)),
     ((6 : Nat), AV.int IntKind.i64 (nextR l n (8 : Int))),
     ((7 : Nat), AV.ptr (4 : Nat) (nextR l n (8 : Int)).toNat (0 : Nat)),
     ((8 : Nat),
     AV.int IntKind.u32
     ([(1 : Int), (2 : Int), (1 : Int), (3 : Int), (0 : Int), (4294967295 : Int), (33 : Int),
     (1 : Int)].getD
     (nextR l n (8 : Int)).toNat (0 : Int))),
     ((9 : Nat), AV.ptr (1000 : Nat) (0 : Nat) (0 : Nat)),
     ((10 : Nat), AV.int IntKind.i64 (nextR l (nextN l n) (2 : Int))),
     ((11 : Nat), AV.bool (nextR l (nextN l n) (2 : Int) == (1 : Int))),
     ((12 : Nat),
     AV.agg
     [AV.int IntKind.u32
     ([(1 : Int), (2 : Int), (1 : Int), (3 : Int), (0 : Int), (4294967295 : Int), (33 : Int),
     (1 : Int)].getD
     (nextR l n (8 : Int)).toNat (0 : Int)),
     AV.bool (nextR l (nextN l n) (2 : Int) == (1 : Int)), AV.int IntKind.i64 (0 : Int),
     AV.int IntKind.i64 (0 : Int), AV.int IntKind.i64 (0 : Int), AV.nil])]
     [((2 : Nat),
     AV.box (38 : Nat)
     [AV.int IntKind.u32 (0 : Int), AV.bool false, AV.int IntKind.i64 (0 : Int),
     AV.int IntKind.i64 (0 : Int), AV.int IntKind.i64 (0 : Int), AV.nil]),
     ((3 : Nat),
     AV.box (38 : Nat)
     [AV.int IntKind.u32
     ([(1 : Int), (2 : Int), (1 : Int), (3 : Int), (0 : Int), (4294967295 : Int), (33 : Int),
     (1 : Int)].getD
     (nextR l n (8 : Int)).toNat (0 : Int)),
     AV.bool (nextR l (nextN l n) (2 : Int) == (1 : Int)), AV.int IntKind.i64 (0 : Int),
     AV.int IntKind.i64 (0 : Int), AV.int IntKind.i64 (0 : Int), AV.nil]),
     ((4 : Nat),
     AV.lini (27 : Nat) IntKind.u32
     [(1 : Int), (2 : Int), (1 : Int), (3 : Int), (0 : Int), (4294967295 : Int), (33 : Int),
     (1 : Int)]),
     ((1000 : Nat),
     AV.box (83 : Nat)
     [AV.ints false IntKind.i64 l, AV.int IntKind.i64 (nextN l (nextN l n))])])) →
     chk
     (decide
     ((0 : Int) < (2 : Int) ∧
     (2 : Int) ≤ (1000000 : Int) ∧ (0 : Int) ≤ nextN l n ∧ nextN l n ≤ @Nat.cast Int _ l.length))
     (K
     (AS.mk
     [((0 : Nat), AV.ptr (1000 : Nat) (0 : Nat) (0 : Nat)),
     ((2 : Nat), AV.ptr (2 : Nat) (0 : Nat) (0 : Nat)),
     ((3 : Nat), AV.ptr (3 : Nat) (0 : Nat) (0 : Nat)), ((4 : Nat), AV.ownf (4 : Nat)),
     ((5 : Nat), AV.ptr (1000 : Nat) (0 : Nat) (0 : Nat)),
     ((6 : Nat), AV.int IntKind.i64 (nextR l n (8 : Int))),
     ((7 : Nat), AV.ptr (4 : Nat) (nextR l n (8 : Int)).toNat (0 : Nat)),
     ((8 : Nat),
     AV.int IntKind.u32
     ([(1 : Int), (2 : Int), (1 : Int), (3 : Int), (0 : Int), (4294967295 : Int), (33 : Int),
     (1 : Int)].getD
     (nextR l n (8 : Int)).toNat (0 : Int))),
     ((9 : Nat), AV.ptr (1000 : Nat) (0 : Nat) (0 : Nat)),
     ((10 : Nat), AV.int IntKind.i64 (nextR l (nextN l n) (2 : Int))),
     ((11 : Nat), AV.bool (nextR l (nextN l n) (2 : Int) == (1 : Int))),
     ((12 : Nat),
     AV.agg
     [AV.int IntKind.u32
     ([(1 : Int), (2 : Int), (1 : Int), (3 : Int), (0 : Int), (4294967295 : Int), (33 : Int),
     (1 : Int)].getD
     (nextR l n (8 : Int)).toNat (0 : Int)),
     AV.bool (nextR l (nextN l n) (2 : Int) == (1 : Int)), AV.int IntKind.i64 (0 : Int),
     AV.int IntKind.i64 (0 : Int), AV.int IntKind.i64 (0 : Int), AV.nil])]
     [((2 : Nat),
     AV.box (38 : Nat)
     [AV.int IntKind.u32 (0 : Int), AV.bool false, AV.int IntKind.i64 (0 : Int),
     AV.int IntKind.i64 (0 : Int), AV.int IntKind.i64 (0 : Int), AV.nil]),
     ((3 : Nat),
     AV.box (38 : Nat)
     [AV.int IntKind.u32
     ([(1 : Int), (2 : Int), (1 : Int), (3 : Int), (0 : Int), (4294967295 : Int), (33 : Int),
     (1 : Int)].getD
     (nextR l n (8 : Int)).toNat (0 : Int)),
     AV.bool (nextR l (nextN l n) (2 : Int) == (1 : Int)), AV.int IntKind.i64 (0 : Int),
     AV.int IntKind.i64 (0 : Int), AV.int IntKind.i64 (0 : Int), AV.nil]),
     ((4 : Nat),
     AV.lini (27 : Nat) IntKind.u32
     [(1 : Int), (2 : Int), (1 : Int), (3 : Int), (0 : Int), (4294967295 : Int), (33 : Int),
     (1 : Int)]),
     ((1000 : Nat),
     AV.box (83 : Nat)
     [AV.ints false IntKind.i64 l, AV.int IntKind.i64 (nextN l (nextN l n))])]))))) ∧
     ∀ (K : AS → Prop),
     chk (decide ((0 : Int) < (8 : Int) ∧ (8 : Int) ≤ (1000000 : Int) ∧ (0 : Int) ≤ n ∧ n ≤ @Nat.cast Int _ l.length))
     (chk (inB (nextR l n (8 : Int)) (8 : Nat))
     (chk (decide ((nextR l n (8 : Int)).toNat < (8 : Nat)))
     (chk
     (decide
     ((0 : Int) < (2 : Int) ∧
     (2 : Int) ≤ (1000000 : Int) ∧ (0 : Int) ≤ nextN l n ∧ nextN l n ≤ @Nat.cast Int _ l.length))
     (K
     (AS.mk
     [((0 : Nat), AV.ptr (1000 : Nat) (0 : Nat) (0 : Nat)),
     ((2 : Nat), AV.ptr (2 : Nat) (0 : Nat) (0 : Nat)),
     ((3 : Nat), AV.ptr (3 : Nat) (0 : Nat) (0 : Nat)), ((4 : Nat), AV.ownf (4 : Nat)),
     ((5 : Nat), AV.ptr (1000 : Nat) (0 : Nat) (0 : Nat)),
     ((6 : Nat), AV.int IntKind.i64 (nextR l n (8 : Int))),
     ((7 : Nat), AV.ptr (4 : Nat) (nextR l n (8 : Int)).toNat (0 : Nat)),
     ((8 : Nat),
     AV.int IntKind.u32
     ([(1 : Int), (2 : Int), (1 : Int), (3 : Int), (0 : Int), (4294967295 : Int), (33 : Int),
     (1 : Int)].getD
     (nextR l n (8 : Int)).toNat (0 : Int))),
     ((9 : Nat), AV.ptr (1000 : Nat) (0 : Nat) (0 : Nat)),
     ((10 : Nat), AV.int IntKind.i64 (nextR l (nextN l n) (2 : Int))),
     ((11 : Nat), AV.bool (nextR l (nextN l n) (2 : Int) == (1 : Int))),
     ((12 : Nat),
     AV.agg
     [AV.int IntKind.u32
     ([(1 : Int), (2 : Int), (1 : Int), (3 : Int), (0 : Int), (4294967295 : Int), (33 : Int),
     (1 : Int)].getD
     (nextR l n (8 : Int)).toNat (0 : Int)),
     AV.bool (nextR l (nextN l n) (2 : Int) == (1 : Int)), AV.int IntKind.i64 (0 : Int),
     AV.int IntKind.i64 (0 : Int), AV.int IntKind.i64 (0 : Int), AV.nil])]
     [((2 : Nat),
     AV.box (38 : Nat)
     [AV.int IntKind.u32 (0 : Int), AV.bool false, AV.int IntKind.i64 (0 : Int),
     AV.int IntKind.i64 (0 : Int), AV.int IntKind.i64 (0 : Int), AV.nil]),
     ((3 : Nat),
     AV.box (38 : Nat)
     [AV.int IntKind.u32
     ([(1 : Int), (2 : Int), (1 : Int), (3 : Int), (0 : Int), (4294967295 : Int), (33 : Int),
     (1 : Int)].getD
     (nextR l n (8 : Int)).toNat (0 : Int)),
     AV.bool (nextR l (nextN l n) (2 : Int) == (1 : Int)), AV.int IntKind.i64 (0 : Int),
     AV.int IntKind.i64 (0 : Int), AV.int IntKind.i64 (0 : Int), AV.nil]),
     ((4 : Nat),
     AV.lini (27 : Nat) IntKind.u32
     [(1 : Int), (2 : Int), (1 : Int), (3 : Int), (0 : Int), (4294967295 : Int), (33 : Int),
     (1 : Int)]),
     ((1000 : Nat),
     AV.box (83 : Nat)
     [AV.ints false IntKind.i64 l, AV.int IntKind.i64 (nextN l (nextN l n))])])) ∧
     ∀ (K : AS → Prop),
     chk
     (decide
     ((0 : Int) < (2 : Int) ∧
     (2 : Int) ≤ (1000000 : Int) ∧ (0 : Int) ≤ nextN l n ∧ nextN l n ≤ @Nat.cast Int _ l.length))
     (K
     (AS.mk
     [((0 : Nat), AV.ptr (1000 : Nat) (0 : Nat) (0 : Nat)),
     ((2 : Nat), AV.ptr (2 : Nat) (0 : Nat) (0 : Nat)),
     ((3 : Nat), AV.ptr (3 : Nat) (0 : Nat) (0 : Nat)), ((4 : Nat), AV.ownf (4 : Nat)),
     ((5 : Nat), AV.ptr (1000 : Nat) (0 : Nat) (0 : Nat)),
     ((6 : Nat), AV.int IntKind.i64 (nextR l n (8 : Int))),
     ((7 : Nat), AV.ptr (4 : Nat) (nextR l n (8 : Int)).toNat (0 : Nat)),
     ((8 : Nat),
     AV.int IntKind.u32
     ([(1 : Int), (2 : Int), (1 : Int), (3 : Int), (0 : Int), (4294967295 : Int), (33 : Int),
     (1 : Int)].getD
     (nextR l n (8 : Int)).toNat (0 : Int))),
     ((9 : Nat), AV.ptr (1000 : Nat) (0 : Nat) (0 : Nat)),
     ((10 : Nat), AV.int IntKind.i64 (nextR l (nextN l n) (2 : Int))),
     ((11 : Nat), AV.bool (nextR l (nextN l n) (2 : Int) == (1 : Int))),
     ((12 : Nat),
     AV.agg
     [AV.int IntKind.u32
     ([(1 : Int), (2 : Int), (1 : Int), (3 : Int), (0 : Int), (4294967295 : Int),
     (33 : Int), (1 : Int)].getD
     (nextR l n (8 : Int)).toNat (0 : Int)),
     AV.bool (nextR l (nextN l n) (2 : Int) == (1 : Int)), AV.int IntKind.i64 (0 : Int),
     AV.int IntKind.i64 (0 : Int), AV.int IntKind.i64 (0 : Int), AV.nil])]
     [((2 : Nat),
     AV.box (38 : Nat)
     [AV.int IntKind.u32 (0 : Int), AV.bool false, AV.int IntKind.i64 (0 : Int),
     AV.int IntKind.i64 (0 : Int), AV.int IntKind.i64 (0 : Int), AV.nil]),
     ((3 : Nat),
     AV.box (38 : Nat)
     [AV.int IntKind.u32
     ([(1 : Int), (2 : Int), (1 : Int), (3 : Int), (0 : Int), (4294967295 : Int),
     (33 : Int), (1 : Int)].getD
     (nextR l n (8 : Int)).toNat (0 : Int)),
     AV.bool (nextR l (nextN l n) (2 : Int) == (1 : Int)), AV.int IntKind.i64 (0 : Int),
     AV.int IntKind.i64 (0 : Int), AV.int IntKind.i64 (0 : Int), AV.nil]),
     ((4 : Nat),
     AV.lini (27 : Nat) IntKind.u32
     [(1 : Int), (2 : Int), (1 : Int), (3 : Int), (0 : Int), (4294967295 : Int), (33 : Int),
     (1 : Int)]),
     ((1000 : Nat),
     AV.box (83 : Nat)
     [AV.ints false IntKind.i64 l, AV.int IntKind.i64 (nextN l (nextN l n))])])) →
     chk
     (decide
     ((0 : Int) < (2 : Int) ∧
     (2 : Int) ≤ (1000000 : Int) ∧ (0 : Int) ≤ nextN l n ∧ nextN l n ≤ @Nat.cast Int _ l.length))
     (K
     (AS.mk
     [((0 : Nat), AV.ptr (1000 : Nat) (0 : Nat) (0 : Nat)),
     ((2 : Nat), AV.ptr (2 : Nat) (0 : Nat) (0 : Nat)),
     ((3 : Nat), AV.ptr (3 : Nat) (0 : Nat) (0 : Nat)), ((4 : Nat), AV.ownf (4 : Nat)),
     ((5 : Nat), AV.ptr (1000 : Nat) (0 : Nat) (0 : Nat)),
     ((6 : Nat), AV.int IntKind.i64 (nextR l n (8 : Int))),
     ((7 : Nat), AV.ptr (4 : Nat) (nextR l n (8 : Int)).toNat (0 : Nat)),
     ((8 : Nat),
     AV.int IntKind.u32
     ([(1 : Int), (2 : Int), (1 : Int), (3 : Int), (0 : Int), (4294967295 : Int), (33 : Int),
     (1 : Int)].getD
     (nextR l n (8 : Int)).toNat (0 : Int))),
     ((9 : Nat), AV.ptr (1000 : Nat) (0 : Nat) (0 : Nat)),
     ((10 : Nat), AV.int IntKind.i64 (nextR l (nextN l n) (2 : Int))),
     ((11 : Nat), AV.bool (nextR l (nextN l n) (2 : Int) == (1 : Int))),
     ((12 : Nat),
     AV.agg
     [AV.int IntKind.u32
     ([(1 : Int), (2 : Int), (1 : Int), (3 : Int), (0 : Int), (4294967295 : Int),
     (33 : Int), (1 : Int)].getD
     (nextR l n (8 : Int)).toNat (0 : Int)),
     AV.bool (nextR l (nextN l n) (2 : Int) == (1 : Int)), AV.int IntKind.i64 (0 : Int),
     AV.int IntKind.i64 (0 : Int), AV.int IntKind.i64 (0 : Int), AV.nil])]
     [((2 : Nat),
     AV.box (38 : Nat)
     [AV.int IntKind.u32 (0 : Int), AV.bool false, AV.int IntKind.i64 (0 : Int),
     AV.int IntKind.i64 (0 : Int), AV.int IntKind.i64 (0 : Int), AV.nil]),
     ((3 : Nat),
     AV.box (38 : Nat)
     [AV.int IntKind.u32
     ([(1 : Int), (2 : Int), (1 : Int), (3 : Int), (0 : Int), (4294967295 : Int),
     (33 : Int), (1 : Int)].getD
     (nextR l n (8 : Int)).toNat (0 : Int)),
     AV.bool (nextR l (nextN l n) (2 : Int) == (1 : Int)), AV.int IntKind.i64 (0 : Int),
     AV.int IntKind.i64 (0 : Int), AV.int IntKind.i64 (0 : Int), AV.nil]),
     ((4 : Nat),
     AV.lini (27 : Nat) IntKind.u32
     [(1 : Int), (2 : Int), (1 : Int), (3 : Int), (0 : Int), (4294967295 : Int), (33 : Int),
     (1 : Int)]),
     ((1000 : Nat),
     AV.box (83 : Nat)
     [AV.ints false IntKind.i64 l, AV.int IntKind.i64 (nextN l (nextN l n))])]))))) →
     chk (decide ((0 : Int) < (8 : Int) ∧ (8 : Int) ≤ (1000000 : Int) ∧ (0 : Int) ≤ n ∧ n ≤ @Nat.cast Int _ l.length))
     (chk (inB (nextR l n (8 : Int)) (8 : Nat))
     (chk (decide ((nextR l n (8 : Int)).toNat < (8 : Nat)))
     (chk
     (decide
     ((0 : Int) < (2 : Int) ∧
     (2 : Int) ≤ (1000000 : Int) ∧ (0 : Int) ≤ nextN l n ∧ nextN l n ≤ @Nat.cast Int _ l.length))
     (K
     (AS.mk
     [((0 : Nat), AV.ptr (1000 : Nat) (0 : Nat) (0 : Nat)),
     ((2 : Nat), AV.ptr (2 : Nat) (0 : Nat) (0 : Nat)),
     ((3 : Nat), AV.ptr (3 : Nat) (0 : Nat) (0 : Nat)), ((4 : Nat), AV.ownf (4 : Nat)),
     ((5 : Nat), AV.ptr (1000 : Nat) (0 : Nat) (0 : Nat)),
     ((6 : Nat), AV.int IntKind.i64 (nextR l n (8 : Int))),
     ((7 : Nat), AV.ptr (4 : Nat) (nextR l n (8 : Int)).toNat (0 : Nat)),
     ((8 : Nat),
     AV.int IntKind.u32
     ([(1 : Int), (2 : Int), (1 : Int), (3 : Int), (0 : Int), (4294967295 : Int), (33 : Int),
     (1 : Int)].getD
     (nextR l n (8 : Int)).toNat (0 : Int))),
     ((9 : Nat), AV.ptr (1000 : Nat) (0 : Nat) (0 : Nat)),
     ((10 : Nat), AV.int IntKind.i64 (nextR l (nextN l n) (2 : Int))),
     ((11 : Nat), AV.bool (nextR l (nextN l n) (2 : Int) == (1 : Int))),
     ((12 : Nat),
     AV.agg
     [AV.int IntKind.u32
     ([(1 : Int), (2 : Int), (1 : Int), (3 : Int), (0 : Int), (4294967295 : Int), (33 : Int),
     (1 : Int)].getD
     (nextR l n (8 : Int)).toNat (0 : Int)),
     AV.bool (nextR l (nextN l n) (2 : Int) == (1 : Int)), AV.int IntKind.i64 (0 : Int),
     AV.int IntKind.i64 (0 : Int), AV.int IntKind.i64 (0 : Int), AV.nil])]
     [((2 : Nat),
     AV.box (38 : Nat)
     [AV.int IntKind.u32 (0 : Int), AV.bool false, AV.int IntKind.i64 (0 : Int),
     AV.int IntKind.i64 (0 : Int), AV.int IntKind.i64 (0 : Int), AV.nil]),
     ((3 : Nat),
     AV.box (38 : Nat)
     [AV.int IntKind.u32
     ([(1 : Int), (2 : Int), (1 : Int), (3 : Int), (0 : Int), (4294967295 : Int), (33 : Int),
     (1 : Int)].getD
     (nextR l n (8 : Int)).toNat (0 : Int)),
     AV.bool (nextR l (nextN l n) (2 : Int) == (1 : Int)), AV.int IntKind.i64 (0 : Int),
     AV.int IntKind.i64 (0 : Int), AV.int IntKind.i64 (0 : Int), AV.nil]),
     ((4 : Nat),
     AV.lini (27 : Nat) IntKind.u32
     [(1 : Int), (2 : Int), (1 : Int), (3 : Int), (0 : Int), (4294967295 : Int), (33 : Int),
     (1 : Int)]),
     ((1000 : Nat),
     AV.box (83 : Nat)
     [AV.ints false IntKind.i64 l, AV.int IntKind.i64 (nextN l (nextN l n))])])))))) ∧
     ∀ (K : AS → Prop),
     (chk (decide ((0 : Int) < (8 : Int) ∧ (8 : Int) ≤ (1000000 : Int) ∧ (0 : Int) ≤ n ∧ n ≤ @Nat.cast Int _ l.length))
     (chk (inB (nextR l n (8 : Int)) (8 : Nat))
     (chk (decide ((nextR l n (8 : Int)).toNat < (8 : Nat)))
     (chk
     (decide
     ((0 : Int) < (2 : Int) ∧
     (2 : Int) ≤ (1000000 : Int) ∧ (0 : Int) ≤ nextN l n ∧ nextN l n ≤ @Nat.cast Int _ l.length))
     (K
     (AS.mk
     [((0 : Nat), AV.ptr (1000 : Nat) (0 : Nat) (0 : Nat)),
     ((2 : Nat), AV.ptr (2 : Nat) (0 : Nat) (0 : Nat)),
     ((3 : Nat), AV.ptr (3 : Nat) (0 : Nat) (0 : Nat)), ((4 : Nat), AV.ownf (4 : Nat)),
     ((5 : Nat), AV.ptr (1000 : Nat) (0 : Nat) (0 : Nat)),
     ((6 : Nat), AV.int IntKind.i64 (nextR l n (8 : Int))),
     ((7 : Nat), AV.ptr (4 : Nat) (nextR l n (8 : Int)).toNat (0 : Nat)),
     ((8 : Nat),
     AV.int IntKind.u32
     ([(1 : Int), (2 : Int), (1 : Int), (3 : Int), (0 : Int), (4294967295 : Int), (33 : Int),
     (1 : Int)].getD
     (nextR l n (8 : Int)).toNat (0 : Int))),
     ((9 : Nat), AV.ptr (1000 : Nat) (0 : Nat) (0 : Nat)),
     ((10 : Nat), AV.int IntKind.i64 (nextR l (nextN l n) (2 : Int))),
     ((11 : Nat), AV.bool (nextR l (nextN l n) (2 : Int) == (1 : Int))),
     ((12 : Nat),
     AV.agg
     [AV.int IntKind.u32
     ([(1 : Int), (2 : Int), (1 : Int), (3 : Int), (0 : Int), (4294967295 : Int), (33 : Int),
     (1 : Int)].getD
     (nextR l n (8 : Int)).toNat (0 : Int)),
     AV.bool (nextR l (nextN l n) (2 : Int) == (1 : Int)), AV.int IntKind.i64 (0 : Int),
     AV.int IntKind.i64 (0 : Int), AV.int IntKind.i64 (0 : Int), AV.nil])]
     [((2 : Nat),
     AV.box (38 : Nat)
     [AV.int IntKind.u32 (0 : Int), AV.bool false, AV.int IntKind.i64 (0 : Int),
     AV.int IntKind.i64 (0 : Int), AV.int IntKind.i64 (0 : Int), AV.nil]),
     ((3 : Nat),
     AV.box (38 : Nat)
     [AV.int IntKind.u32
     ([(1 : Int), (2 : Int), (1 : Int), (3 : Int), (0 : Int), (4294967295 : Int), (33 : Int),
     (1 : Int)].getD
     (nextR l n (8 : Int)).toNat (0 : Int)),
     AV.bool (nextR l (nextN l n) (2 : Int) == (1 : Int)), AV.int IntKind.i64 (0 : Int),
     AV.int IntKind.i64 (0 : Int), AV.int IntKind.i64 (0 : Int), AV.nil]),
     ((4 : Nat),
     AV.lini (27 : Nat) IntKind.u32
     [(1 : Int), (2 : Int), (1 : Int), (3 : Int), (0 : Int), (4294967295 : Int), (33 : Int),
     (1 : Int)]),
     ((1000 : Nat),
     AV.box (83 : Nat)
     [AV.ints false IntKind.i64 l, AV.int IntKind.i64 (nextN l (nextN l n))])])) ∧
     ∀ (K : AS → Prop),
     chk
     (decide
     ((0 : Int) < (2 : Int) ∧
     (2 : Int) ≤ (1000000 : Int) ∧ (0 : Int) ≤ nextN l n ∧ nextN l n ≤ @Nat.cast Int _ l.length))
     (K
     (AS.mk
     [((0 : Nat), AV.ptr (1000 : Nat) (0 : Nat) (0 : Nat)),
     ((2 : Nat), AV.ptr (2 : Nat) (0 : Nat) (0 : Nat)),
     ((3 : Nat), AV.ptr (3 : Nat) (0 : Nat) (0 : Nat)), ((4 : Nat), AV.ownf (4 : Nat)),
     ((5 : Nat), AV.ptr (1000 : Nat) (0 : Nat) (0 : Nat)),
     ((6 : Nat), AV.int IntKind.i64 (nextR l n (8 : Int))),
     ((7 : Nat), AV.ptr (4 : Nat) (nextR l n (8 : Int)).toNat (0 : Nat)),
     ((8 : Nat),
     AV.int IntKind.u32
     ([(1 : Int), (2 : Int), (1 : Int), (3 : Int), (0 : Int), (4294967295 : Int), (33 : Int),
     (1 : Int)].getD
     (nextR l n (8 : Int)).toNat (0 : Int))),
     ((9 : Nat), AV.ptr (1000 : Nat) (0 : Nat) (0 : Nat)),
     ((10 : Nat), AV.int IntKind.i64 (nextR l (nextN l n) (2 : Int))),
     ((11 : Nat), AV.bool (nextR l (nextN l n) (2 : Int) == (1 : Int))),
     ((12 : Nat),
     AV.agg
     [AV.int IntKind.u32
     ([(1 : Int), (2 : Int), (1 : Int), (3 : Int), (0 : Int), (4294967295 : Int),
     (33 : Int), (1 : Int)].getD
     (nextR l n (8 : Int)).toNat (0 : Int)),
     AV.bool (nextR l (nextN l n) (2 : Int) == (1 : Int)), AV.int IntKind.i64 (0 : Int),
     AV.int IntKind.i64 (0 : Int), AV.int IntKind.i64 (0 : Int), AV.nil])]
     [((2 : Nat),
     AV.box (38 : Nat)
     [AV.int IntKind.u32 (0 : Int), AV.bool false, AV.int IntKind.i64 (0 : Int),
     AV.int IntKind.i64 (0 : Int), AV.int IntKind.i64 (0 : Int), AV.nil]),
     ((3 : Nat),
     AV.box (38 : Nat)
     [AV.int IntKind.u32
     ([(1 : Int), (2 : Int), (1 : Int), (3 : Int), (0 : Int), (4294967295 : Int),
     (33 : Int), (1 : Int)].getD
     (nextR l n (8 : Int)).toNat (0 : Int)),
     AV.bool (nextR l (nextN l n) (2 : Int) == (1 : Int)), AV.int IntKind.i64 (0 : Int),
     AV.int IntKind.i64 (0 : Int), AV.int IntKind.i64 (0 : Int), AV.nil]),
     ((4 : Nat),
     AV.lini (27 : Nat) IntKind.u32
     [(1 : Int), (2 : Int), (1 : Int), (3 : Int), (0 : Int), (4294967295 : Int), (33 : Int),
     (1 : Int)]),
     ((1000 : Nat),
     AV.box (83 : Nat)
     [AV.ints false IntKind.i64 l, AV.int IntKind.i64 (nextN l (nextN l n))])])) →
     chk
     (decide
     ((0 : Int) < (2 : Int) ∧
     (2 : Int) ≤ (1000000 : Int) ∧ (0 : Int) ≤ nextN l n ∧ nextN l n ≤ @Nat.cast Int _ l.length))
     (K
     (AS.mk
     [((0 : Nat), AV.ptr (1000 : Nat) (0 : Nat) (0 : Nat)),
     ((2 : Nat), AV.ptr (2 : Nat) (0 : Nat) (0 : Nat)),
     ((3 : Nat), AV.ptr (3 : Nat) (0 : Nat) (0 : Nat)), ((4 : Nat), AV.ownf (4 : Nat)),
     ((5 : Nat), AV.ptr (1000 : Nat) (0 : Nat) (0 : Nat)),
     ((6 : Nat), AV.int IntKind.i64 (nextR l n (8 : Int))),
     ((7 : Nat), AV.ptr (4 : Nat) (nextR l n (8 : Int)).toNat (0 : Nat)),
     ((8 : Nat),
     AV.int IntKind.u32
     ([(1 : Int), (2 : Int), (1 : Int), (3 : Int), (0 : Int), (4294967295 : Int), (33 : Int),
     (1 : Int)].getD
     (nextR l n (8 : Int)).toNat (0 : Int))),
     ((9 : Nat), AV.ptr (1000 : Nat) (0 : Nat) (0 : Nat)),
     ((10 : Nat), AV.int IntKind.i64 (nextR l (nextN l n) (2 : Int))),
     ((11 : Nat), AV.bool (nextR l (nextN l n) (2 : Int) == (1 : Int))),
     ((12 : Nat),
     AV.agg
     [AV.int IntKind.u32
     ([(1 : Int), (2 : Int), (1 : Int), (3 : Int), (0 : Int), (4294967295 : Int),
     (33 : Int), (1 : Int)].getD
     (nextR l n (8 : Int)).toNat (0 : Int)),
     AV.bool (nextR l (nextN l n) (2 : Int) == (1 : Int)), AV.int IntKind.i64 (0 : Int),
     AV.int IntKind.i64 (0 : Int), AV.int IntKind.i64 (0 : Int), AV.nil])]
     [((2 : Nat),
     AV.box (38 : Nat)
     [AV.int IntKind.u32 (0 : Int), AV.bool false, AV.int IntKind.i64 (0 : Int),
     AV.int IntKind.i64 (0 : Int), AV.int IntKind.i64 (0 : Int), AV.nil]),
     ((3 : Nat),
     AV.box (38 : Nat)
     [AV.int IntKind.u32
     ([(1 : Int), (2 : Int), (1 : Int), (3 : Int), (0 : Int), (4294967295 : Int),
     (33 : Int), (1 : Int)].getD
     (nextR l n (8 : Int)).toNat (0 : Int)),
     AV.bool (nextR l (nextN l n) (2 : Int) == (1 : Int)), AV.int IntKind.i64 (0 : Int),
     AV.int IntKind.i64 (0 : Int), AV.int IntKind.i64 (0 : Int), AV.nil]),
     ((4 : Nat),
     AV.lini (27 : Nat) IntKind.u32
     [(1 : Int), (2 : Int), (1 : Int), (3 : Int), (0 : Int), (4294967295 : Int), (33 : Int),
     (1 : Int)]),
     ((1000 : Nat),
     AV.box (83 : Nat)
     [AV.ints false IntKind.i64 l, AV.int IntKind.i64 (nextN l (nextN l n))])]))))) ∧
     ∀ (K : AS → Prop),
     chk (decide ((0 : Int) < (8 : Int) ∧ (8 : Int) ≤ (1000000 : Int) ∧ (0 : Int) ≤ n ∧ n ≤ @Nat.cast Int _ l.length))
     (chk (inB (nextR l n (8 : Int)) (8 : Nat))
     (chk (decide ((nextR l n (8 : Int)).toNat < (8 : Nat)))
     (chk
     (decide
     ((0 : Int) < (2 : Int) ∧
     (2 : Int) ≤ (1000000 : Int) ∧ (0 : Int) ≤ nextN l n ∧ nextN l n ≤ @Nat.cast Int _ l.length))
     (K
     (AS.mk
     [((0 : Nat), AV.ptr (1000 : Nat) (0 : Nat) (0 : Nat)),
     ((2 : Nat), AV.ptr (2 : Nat) (0 : Nat) (0 : Nat)),
     ((3 : Nat), AV.ptr (3 : Nat) (0 : Nat) (0 : Nat)), ((4 : Nat), AV.ownf (4 : Nat)),
     ((5 : Nat), AV.ptr (1000 : Nat) (0 : Nat) (0 : Nat)),
     ((6 : Nat), AV.int IntKind.i64 (nextR l n (8 : Int))),
     ((7 : Nat), AV.ptr (4 : Nat) (nextR l n (8 : Int)).toNat (0 : Nat)),
     ((8 : Nat),
     AV.int IntKind.u32
     ([(1 : Int), (2 : Int), (1 : Int), (3 : Int), (0 : Int), (4294967295 : Int), (33 : Int),
     (1 : Int)].getD
     (nextR l n (8 : Int)).toNat (0 : Int))),
     ((9 : Nat), AV.ptr (1000 : Nat) (0 : Nat) (0 : Nat)),
     ((10 : Nat), AV.int IntKind.i64 (nextR l (nextN l n) (2 : Int))),
     ((11 : Nat), AV.bool (nextR l (nextN l n) (2 : Int) == (1 : Int))),
     ((12 : Nat),
     AV.agg
     [AV.int IntKind.u32
     ([(1 : Int), (2 : Int), (1 : Int), (3 : Int), (0 : Int), (4294967295 : Int),
     (33 : Int), (1 : Int)].getD
     (nextR l n (8 : Int)).toNat (0 : Int)),
     AV.bool (nextR l (nextN l n) (2 : Int) == (1 : Int)), AV.int IntKind.i64 (0 : Int),
     AV.int IntKind.i64 (0 : Int), AV.int IntKind.i64 (0 : Int), AV.nil])]
     [((2 : Nat),
     AV.box (38 : Nat)
     [AV.int IntKind.u32 (0 : Int), AV.bool false, AV.int IntKind.i64 (0 : Int),
     AV.int IntKind.i64 (0 : Int), AV.int IntKind.i64 (0 : Int), AV.nil]),
     ((3 : Nat),
     AV.box (38 : Nat)
     [AV.int IntKind.u32
     ([(1 : Int), (2 : Int), (1 : Int), (3 : Int), (0 : Int), (4294967295 : Int),
     (33 : Int), (1 : Int)].getD
     (nextR l n (8 : Int)).toNat (0 : Int)),
     AV.bool (nextR l (nextN l n) (2 : Int) == (1 : Int)), AV.int IntKind.i64 (0 : Int),
     AV.int IntKind.i64 (0 : Int), AV.int IntKind.i64 (0 : Int), AV.nil]),
     ((4 : Nat),
     AV.lini (27 : Nat) IntKind.u32
     [(1 : Int), (2 : Int), (1 : Int), (3 : Int), (0 : Int), (4294967295 : Int), (33 : Int),
     (1 : Int)]),
     ((1000 : Nat),
     AV.box (83 : Nat)
     [AV.ints false IntKind.i64 l, AV.int IntKind.i64 (nextN l (nextN l n))])])) ∧
     ∀ (K : AS → Prop),
     chk
     (decide
     ((0 : Int) < (2 : Int) ∧
     (2 : Int) ≤ (1000000 : Int) ∧ (0 : Int) ≤ nextN l n ∧ nextN l n ≤ @Nat.cast Int _ l.length))
     (K
     (AS.mk
     [((0 : Nat), AV.ptr (1000 : Nat) (0 : Nat) (0 : Nat)),
     ((2 : Nat), AV.ptr (2 : Nat) (0 : Nat) (0 : Nat)),
     ((3 : Nat), AV.ptr (3 : Nat) (0 : Nat) (0 : Nat)), ((4 : Nat), AV.ownf (4 : Nat)),
     ((5 : Nat), AV.ptr (1000 : Nat) (0 : Nat) (0 : Nat)),
     ((6 : Nat), AV.int IntKind.i64 (nextR l n (8 : Int))),
     ((7 : Nat), AV.ptr (4 : Nat) (nextR l n (8 : Int)).toNat (0 : Nat)),
     ((8 : Nat),
     AV.int IntKind.u32
     ([(1 : Int), (2 : Int), (1 : Int), (3 : Int), (0 : Int), (4294967295 : Int),
     (33 : Int), (1 : Int)].getD
     (nextR l n (8 : Int)).toNat (0 : Int))),
     ((9 : Nat), AV.ptr (1000 : Nat) (0 : Nat) (0 : Nat)),
     ((10 : Nat), AV.int IntKind.i64 (nextR l (nextN l n) (2 : Int))),
     ((11 : Nat), AV.bool (nextR l (nextN l n) (2 : Int) == (1 : Int))),
     ((12 : Nat),
     AV.agg
     [AV.int IntKind.u32
     ([(1 : Int), (2 : Int), (1 : Int), (3 : Int), (0 : Int), (4294967295 : Int),
     (33 : Int), (1 : Int)].getD
     (nextR l n (8 : Int)).toNat (0 : Int)),
     AV.bool (nextR l (nextN l n) (2 : Int) == (1 : Int)),
     AV.int IntKind.i64 (0 : Int), AV.int IntKind.i64 (0 : Int),
     AV.int IntKind.i64 (0 : Int), AV.nil])]
     [((2 : Nat),
     AV.box (38 : Nat)
     [AV.int IntKind.u32 (0 : Int), AV.bool false, AV.int IntKind.i64 (0 : Int),
     AV.int IntKind.i64 (0 : Int), AV.int IntKind.i64 (0 : Int), AV.nil]),
     ((3 : Nat),
     AV.box (38 : Nat)
     [AV.int IntKind.u32
     ([(1 : Int), (2 : Int), (1 : Int), (3 : Int), (0 : Int), (4294967295 : Int),
     (33 : Int), (1 : Int)].getD
     (nextR l n (8 : Int)).toNat (0 : Int)),
     AV.bool (nextR l (nextN l n) (2 : Int) == (1 : Int)),
     AV.int IntKind.i64 (0 : Int), AV.int IntKind.i64 (0 : Int),
     AV.int IntKind.i64 (0 : Int), AV.nil]),
     ((4 : Nat),
     AV.lini (27 : Nat) IntKind.u32
     [(1 : Int), (2 : Int), (1 : Int), (3 : Int), (0 : Int), (4294967295 : Int),
     (33 : Int), (1 : Int)]),
     ((1000 : Nat),
     AV.box (83 : Nat)
     [AV.ints false IntKind.i64 l, AV.int IntKind.i64 (nextN l (nextN l n))])])) →
     chk
     (decide
     ((0 : Int) < (2 : Int) ∧
     (2 : Int) ≤ (1000000 : Int) ∧ (0 : Int) ≤ nextN l n ∧ nextN l n ≤ @Nat.cast Int _ l.length))
     (K
     (AS.mk
     [((0 : Nat), AV.ptr (1000 : Nat) (0 : Nat) (0 : Nat)),
     ((2 : Nat), AV.ptr (2 : Nat) (0 : Nat) (0 : Nat)),
     ((3 : Nat), AV.ptr (3 : Nat) (0 : Nat) (0 : Nat)), ((4 : Nat), AV.ownf (4 : Nat)),
     ((5 : Nat), AV.ptr (1000 : Nat) (0 : Nat) (0 : Nat)),
     ((6 : Nat), AV.int IntKind.i64 (nextR l n (8 : Int))),
     ((7 : Nat), AV.ptr (4 : Nat) (nextR l n (8 : Int)).toNat (0 : Nat)),
     ((8 : Nat),
     AV.int IntKind.u32
     ([(1 : Int), (2 : Int), (1 : Int), (3 : Int), (0 : Int), (4294967295 : Int),
     (33 : Int), (1 : Int)].getD
     (nextR l n (8 : Int)).toNat (0 : Int))),
     ((9 : Nat), AV.ptr (1000 : Nat) (0 : Nat) (0 : Nat)),
     ((10 : Nat), AV.int IntKind.i64 (nextR l (nextN l n) (2 : Int))),
     ((11 : Nat), AV.bool (nextR l (nextN l n) (2 : Int) == (1 : Int))),
     ((12 : Nat),
     AV.agg
     [AV.int IntKind.u32
     ([(1 : Int), (2 : Int), (1 : Int), (3 : Int), (0 : Int), (4294967295 : Int),
     (33 : Int), (1 : Int)].getD
     (nextR l n (8 : Int)).toNat (0 : Int)),
     AV.bool (nextR l (nextN l n) (2 : Int) == (1 : Int)),
     AV.int IntKind.i64 (0 : Int), AV.int IntKind.i64 (0 : Int),
     AV.int IntKind.i64 (0 : Int), AV.nil])]
     [((2 : Nat),
     AV.box (38 : Nat)
     [AV.int IntKind.u32 (0 : Int), AV.bool false, AV.int IntKind.i64 (0 : Int),
     AV.int IntKind.i64 (0 : Int), AV.int IntKind.i64 (0 : Int), AV.nil]),
     ((3 : Nat),
     AV.box (38 : Nat)
     [AV.int IntKind.u32
     ([(1 : Int), (2 : Int), (1 : Int), (3 : Int), (0 : Int), (4294967295 : Int),
     (33 : Int), (1 : Int)].getD
     (nextR l n (8 : Int)).toNat (0 : Int)),
     AV.bool (nextR l (nextN l n) (2 : Int) == (1 : Int)),
     AV.int IntKind.i64 (0 : Int), AV.int IntKind.i64 (0 : Int),
     AV.int IntKind.i64 (0 : Int), AV.nil]),
     ((4 : Nat),
     AV.lini (27 : Nat) IntKind.u32
     [(1 : Int), (2 : Int), (1 : Int), (3 : Int), (0 : Int), (4294967295 : Int),
     (33 : Int), (1 : Int)]),
     ((1000 : Nat),
     AV.box (83 : Nat)
     [AV.ints false IntKind.i64 l, AV.int IntKind.i64 (nextN l (nextN l n))])]))))) →
     chk (decide ((0 : Int) < (8 : Int) ∧ (8 : Int) ≤ (1000000 : Int) ∧ (0 : Int) ≤ n ∧ n ≤ @Nat.cast Int _ l.length))
     (chk (inB (nextR l n (8 : Int)) (8 : Nat))
     (chk (decide ((nextR l n (8 : Int)).toNat < (8 : Nat)))
     (chk
     (decide
     ((0 : Int) < (2 : Int) ∧
     (2 : Int) ≤ (1000000 : Int) ∧ (0 : Int) ≤ nextN l n ∧ nextN l n ≤ @Nat.cast Int _ l.length))
     (K
     (AS.mk
     [((0 : Nat), AV.ptr (1000 : Nat) (0 : Nat) (0 : Nat)),
     ((2 : Nat), AV.ptr (2 : Nat) (0 : Nat) (0 : Nat)),
     ((3 : Nat), AV.ptr (3 : Nat) (0 : Nat) (0 : Nat)), ((4 : Nat), AV.ownf (4 : Nat)),
     ((5 : Nat), AV.ptr (1000 : Nat) (0 : Nat) (0 : Nat)),
     ((6 : Nat), AV.int IntKind.i64 (nextR l n (8 : Int))),
     ((7 : Nat), AV.ptr (4 : Nat) (nextR l n (8 : Int)).toNat (0 : Nat)),
     ((8 : Nat),
     AV.int IntKind.u32
     ([(1 : Int), (2 : Int), (1 : Int), (3 : Int), (0 : Int), (4294967295 : Int), (33 : Int),
     (1 : Int)].getD
     (nextR l n (8 : Int)).toNat (0 : Int))),
     ((9 : Nat), AV.ptr (1000 : Nat) (0 : Nat) (0 : Nat)),
     ((10 : Nat), AV.int IntKind.i64 (nextR l (nextN l n) (2 : Int))),
     ((11 : Nat), AV.bool (nextR l (nextN l n) (2 : Int) == (1 : Int))),
     ((12 : Nat),
     AV.agg
     [AV.int IntKind.u32
     ([(1 : Int), (2 : Int), (1 : Int), (3 : Int), (0 : Int), (4294967295 : Int),
     (33 : Int), (1 : Int)].getD
     (nextR l n (8 : Int)).toNat (0 : Int)),
     AV.bool (nextR l (nextN l n) (2 : Int) == (1 : Int)), AV.int IntKind.i64 (0 : Int),
     AV.int IntKind.i64 (0 : Int), AV.int IntKind.i64 (0 : Int), AV.nil])]
     [((2 : Nat),
     AV.box (38 : Nat)
     [AV.int IntKind.u32 (0 : Int), AV.bool false, AV.int IntKind.i64 (0 : Int),
     AV.int IntKind.i64 (0 : Int), AV.int IntKind.i64 (0 : Int), AV.nil]),
     ((3 : Nat),
     AV.box (38 : Nat)
     [AV.int IntKind.u32
     ([(1 : Int), (2 : Int), (1 : Int), (3 : Int), (0 : Int), (4294967295 : Int),
     (33 : Int), (1 : Int)].getD
     (nextR l n (8 : Int)).toNat (0 : Int)),
     AV.bool (nextR l (nextN l n) (2 : Int) == (1 : Int)), AV.int IntKind.i64 (0 : Int),
     AV.int IntKind.i64 (0 : Int), AV.int IntKind.i64 (0 : Int), AV.nil]),
     ((4 : Nat),
     AV.lini (27 : Nat) IntKind.u32
     [(1 : Int), (2 : Int), (1 : Int), (3 : Int), (0 : Int), (4294967295 : Int), (33 : Int),
     (1 : Int)]),
     ((1000 : Nat),
     AV.box (83 : Nat)
     [AV.ints false IntKind.i64 l, AV.int IntKind.i64 (nextN l (nextN l n))])])))))) →
     chk (decide ((0 : Int) < (8 : Int) ∧ (8 : Int) ≤ (1000000 : Int) ∧ (0 : Int) ≤ n ∧ n ≤ @Nat.cast Int _ l.length))
     (chk (inB (nextR l n (8 : Int)) (8 : Nat))
     (chk (decide ((nextR l n (8 : Int)).toNat < (8 : Nat)))
     (chk
     (decide
     ((0 : Int) < (2 : Int) ∧
     (2 : Int) ≤ (1000000 : Int) ∧ (0 : Int) ≤ nextN l n ∧ nextN l n ≤ @Nat.cast Int _ l.length))
     (K
     (AS.mk
     [((0 : Nat), AV.ptr (1000 : Nat) (0 : Nat) (0 : Nat)),
     ((2 : Nat), AV.ptr (2 : Nat) (0 : Nat) (0 : Nat)),
     ((3 : Nat), AV.ptr (3 : Nat) (0 : Nat) (0 : Nat)), ((4 : Nat), AV.ownf (4 : Nat)),
     ((5 : Nat), AV.ptr (1000 : Nat) (0 : Nat) (0 : Nat)),
     ((6 : Nat), AV.int IntKind.i64 (nextR l n (8 : Int))),
     ((7 : Nat), AV.ptr (4 : Nat) (nextR l n (8 : Int)).toNat (0 : Nat)),
     ((8 : Nat),
     AV.int IntKind.u32
     ([(1 : Int), (2 : Int), (1 : Int), (3 : Int), (0 : Int), (4294967295 : Int), (33 : Int),
     (1 : Int)].getD
     (nextR l n (8 : Int)).toNat (0 : Int))),
     ((9 : Nat), AV.ptr (1000 : Nat) (0 : Nat) (0 : Nat)),
     ((10 : Nat), AV.int IntKind.i64 (nextR l (nextN l n) (2 : Int))),
     ((11 : Nat), AV.bool (nextR l (nextN l n) (2 : Int) == (1 : Int))),
     ((12 : Nat),
     AV.agg
     [AV.int IntKind.u32
     ([(1 : Int), (2 : Int), (1 : Int), (3 : Int), (0 : Int), (4294967295 : Int),
     (33 : Int), (1 : Int)].getD
     (nextR l n (8 : Int)).toNat (0 : Int)),
     AV.bool (nextR l (nextN l n) (2 : Int) == (1 : Int)), AV.int IntKind.i64 (0 : Int),
     AV.int IntKind.i64 (0 : Int), AV.int IntKind.i64 (0 : Int), AV.nil])]
     [((2 : Nat),
     AV.box (38 : Nat)
     [AV.int IntKind.u32 (0 : Int), AV.bool false, AV.int IntKind.i64 (0 : Int),
     AV.int IntKind.i64 (0 : Int), AV.int IntKind.i64 (0 : Int), AV.nil]),
     ((3 : Nat),
     AV.box (38 : Nat)
     [AV.int IntKind.u32
     ([(1 : Int), (2 : Int), (1 : Int), (3 : Int), (0 : Int), (4294967295 : Int),
     (33 : Int), (1 : Int)].getD
     (nextR l n (8 : Int)).toNat (0 : Int)),
     AV.bool (nextR l (nextN l n) (2 : Int) == (1 : Int)), AV.int IntKind.i64 (0 : Int),
     AV.int IntKind.i64 (0 : Int), AV.int IntKind.i64 (0 : Int), AV.nil]),
     ((4 : Nat),
     AV.lini (27 : Nat) IntKind.u32
     [(1 : Int), (2 : Int), (1 : Int), (3 : Int), (0 : Int), (4294967295 : Int), (33 : Int),
     (1 : Int)]),
     ((1000 : Nat),
     AV.box (83 : Nat)
     [AV.ints false IntKind.i64 l, AV.int IntKind.i64 (nextN l (nextN l n))])])) ∧
     ∀ (K : AS → Prop),
     chk
     (decide
     ((0 : Int) < (2 : Int) ∧
     (2 : Int) ≤ (1000000 : Int) ∧ (0 : Int) ≤ nextN l n ∧ nextN l n ≤ @Nat.cast Int _ l.length))
     (K
     (AS.mk
     [((0 : Nat), AV.ptr (1000 : Nat) (0 : Nat) (0 : Nat)),
     ((2 : Nat), AV.ptr (2 : Nat) (0 : Nat) (0 : Nat)),
     ((3 : Nat), AV.ptr (3 : Nat) (0 : Nat) (0 : Nat)), ((4 : Nat), AV.ownf (4 : Nat)),
     ((5 : Nat), AV.ptr (1000 : Nat) (0 : Nat) (0 : Nat)),
     ((6 : Nat), AV.int IntKind.i64 (nextR l n (8 : Int))),
     ((7 : Nat), AV.ptr (4 : Nat) (nextR l n (8 : Int)).toNat (0 : Nat)),
     ((8 : Nat),
     AV.int IntKind.u32
     ([(1 : Int), (2 : Int), (1 : Int), (3 : Int), (0 : Int), (4294967295 : Int),
     (33 : Int), (1 : Int)].getD
     (nextR l n (8 : Int)).toNat (0 : Int))),
     ((9 : Nat), AV.ptr (1000 : Nat) (0 : Nat) (0 : Nat)),
     ((10 : Nat), AV.int IntKind.i64 (nextR l (nextN l n) (2 : Int))),
     ((11 : Nat), AV.bool (nextR l (nextN l n) (2 : Int) == (1 : Int))),
     ((12 : Nat),
     AV.agg
     [AV.int IntKind.u32
     ([(1 : Int), (2 : Int), (1 : Int), (3 : Int), (0 : Int), (4294967295 : Int),
     (33 : Int), (1 : Int)].getD
     (nextR l n (8 : Int)).toNat (0 : Int)),
     AV.bool (nextR l (nextN l n) (2 : Int) == (1 : Int)), AV.int IntKind.i64 (0 : Int),
     AV.int IntKind.i64 (0 : Int), AV.int IntKind.i64 (0 : Int), AV.nil])]
     [((2 : Nat),
     AV.box (38 : Nat)
     [AV.int IntKind.u32 (0 : Int), AV.bool false, AV.int IntKind.i64 (0 : Int),
     AV.int IntKind.i64 (0 : Int), AV.int IntKind.i64 (0 : Int), AV.nil]),
     ((3 : Nat),
     AV.box (38 : Nat)
     [AV.int IntKind.u32
     ([(1 : Int), (2 : Int), (1 : Int), (3 : Int), (0 : Int), (4294967295 : Int),
     (33 : Int), (1 : Int)].getD
     (nextR l n (8 : Int)).toNat (0 : Int)),
     AV.bool (nextR l (nextN l n) (2 : Int) == (1 : Int)), AV.int IntKind.i64 (0 : Int),
     AV.int IntKind.i64 (0 : Int), AV.int IntKind.i64 (0 : Int), AV.nil]),
     ((4 : Nat),
     AV.lini (27 : Nat) IntKind.u32
     [(1 : Int), (2 : Int), (1 : Int), (3 : Int), (0 : Int), (4294967295 : Int),
     (33 : Int), (1 : Int)]),
     ((1000 : Nat),
     AV.box (83 : Nat)
     [AV.ints false IntKind.i64 l, AV.int IntKind.i64 (nextN l (nextN l n))])])) →
     chk
     (decide
     ((0 : Int) < (2 : Int) ∧
     (2 : Int) ≤ (1000000 : Int) ∧ (0 : Int) ≤ nextN l n ∧ nextN l n ≤ @Nat.cast Int _ l.length))
     (K
     (AS.mk
     [((0 : Nat), AV.ptr (1000 : Nat) (0 : Nat) (0 : Nat)),
     ((2 : Nat), AV.ptr (2 : Nat) (0 : Nat) (0 : Nat)),
     ((3 : Nat), AV.ptr (3 : Nat) (0 : Nat) (0 : Nat)), ((4 : Nat), AV.ownf (4 : Nat)),
     ((5 : Nat), AV.ptr (1000 : Nat) (0 : Nat) (0 : Nat)),
     ((6 : Nat), AV.int IntKind.i64 (nextR l n (8 : Int))),
     ((7 : Nat), AV.ptr (4 : Nat) (nextR l n (8 : Int)).toNat (0 : Nat)),
     ((8 : Nat),
     AV.int IntKind.u32
     ([(1 : Int), (2 : Int), (1 : Int), (3 : Int), (0 : Int), (4294967295 : Int),
     (33 : Int), (1 : Int)].getD
     (nextR l n (8 : Int)).toNat (0 : Int))),
     ((9 : Nat), AV.ptr (1000 : Nat) (0 : Nat) (0 : Nat)),
     ((10 : Nat), AV.int IntKind.i64 (nextR l (nextN l n) (2 : Int))),
     ((11 : Nat), AV.bool (nextR l (nextN l n) (2 : Int) == (1 : Int))),
     ((12 : Nat),
     AV.agg
     [AV.int IntKind.u32
     ([(1 : Int), (2 : Int), (1 : Int), (3 : Int), (0 : Int), (4294967295 : Int),
     (33 : Int), (1 : Int)].getD
     (nextR l n (8 : Int)).toNat (0 : Int)),
     AV.bool (nextR l (nextN l n) (2 : Int) == (1 : Int)), AV.int IntKind.i64 (0 : Int),
     AV.int IntKind.i64 (0 : Int), AV.int IntKind.i64 (0 : Int), AV.nil])]
     [((2 : Nat),
     AV.box (38 : Nat)
     [AV.int IntKind.u32 (0 : Int), AV.bool false, AV.int IntKind.i64 (0 : Int),
     AV.int IntKind.i64 (0 : Int), AV.int IntKind.i64 (0 : Int), AV.nil]),
     ((3 : Nat),
     AV.box (38 : Nat)
     [AV.int IntKind.u32
     ([(1 : Int), (2 : Int), (1 : Int), (3 : Int), (0 : Int), (4294967295 : Int),
     (33 : Int), (1 : Int)].getD
     (nextR l n (8 : Int)).toNat (0 : Int)),
     AV.bool (nextR l (nextN l n) (2 : Int) == (1 : Int)), AV.int IntKind.i64 (0 : Int),
     AV.int IntKind.i64 (0 : Int), AV.int IntKind.i64 (0 : Int), AV.nil]),
     ((4 : Nat),
     AV.lini (27 : Nat) IntKind.u32
     [(1 : Int), (2 : Int), (1 : Int), (3 : Int), (0 : Int), (4294967295 : Int),
     (33 : Int), (1 : Int)]),
     ((1000 : Nat),
     AV.box (83 : Nat)
     [AV.ints false IntKind.i64 l, AV.int IntKind.i64 (nextN l (nextN l n))])])))) ∧
     ∀ (K : AS → Prop),
     chk (inB (nextR l n (8 : Int)) (8 : Nat))
     (chk (decide ((nextR l n (8 : Int)).toNat < (8 : Nat)))
     (chk
     (decide
     ((0 : Int) < (2 : Int) ∧
     (2 : Int) ≤ (1000000 : Int) ∧ (0 : Int) ≤ nextN l n ∧ nextN l n ≤ @Nat.cast Int _ l.length))
     (K
     (AS.mk
     [((0 : Nat), AV.ptr (1000 : Nat) (0 : Nat) (0 : Nat)),
     ((2 : Nat), AV.ptr (2 : Nat) (0 : Nat) (0 : Nat)),
     ((3 : Nat), AV.ptr (3 : Nat) (0 : Nat) (0 : Nat)), ((4 : Nat), AV.ownf (4 : Nat)),
     ((5 : Nat), AV.ptr (1000 : Nat) (0 : Nat) (0 : Nat)),
     ((6 : Nat), AV.int IntKind.i64 (nextR l n (8 : Int))),
     ((7 : Nat), AV.ptr (4 : Nat) (nextR l n (8 : Int)).toNat (0 : Nat)),
     ((8 : Nat),
     AV.int IntKind.u32
     ([(1 : Int), (2 : Int), (1 : Int), (3 : Int), (0 : Int), (4294967295 : Int),
     (33 : Int), (1 : Int)].getD
     (nextR l n (8 : Int)).toNat (0 : Int))),
     ((9 : Nat), AV.ptr (1000 : Nat) (0 : Nat) (0 : Nat)),
     ((10 : Nat), AV.int IntKind.i64 (nextR l (nextN l n) (2 : Int))),
     ((11 : Nat), AV.bool (nextR l (nextN l n) (2 : Int) == (1 : Int))),
     ((12 : Nat),
     AV.agg
     [AV.int IntKind.u32
     ([(1 : Int), (2 : Int), (1 : Int), (3 : Int), (0 : Int), (4294967295 : Int),
     (33 : Int), (1 : Int)].getD
     (nextR l n (8 : Int)).toNat (0 : Int)),
     AV.bool (nextR l (nextN l n) (2 : Int) == (1 : Int)), AV.int IntKind.i64 (0 : Int),
     AV.int IntKind.i64 (0 : Int), AV.int IntKind.i64 (0 : Int), AV.nil])]
     [((2 : Nat),
     AV.box (38 : Nat)
     [AV.int IntKind.u32 (0 : Int), AV.bool false, AV.int IntKind.i64 (0 : Int),
     AV.int IntKind.i64 (0 : Int), AV.int IntKind.i64 (0 : Int), AV.nil]),
     ((3 : Nat),
     AV.box (38 : Nat)
     [AV.int IntKind.u32
     ([(1 : Int), (2 : Int), (1 : Int), (3 : Int), (0 : Int), (4294967295 : Int),
     (33 : Int), (1 : Int)].getD
     (nextR l n (8 : Int)).toNat (0 : Int)),
     AV.bool (nextR l (nextN l n) (2 : Int) == (1 : Int)), AV.int IntKind.i64 (0 : Int),
     AV.int IntKind.i64 (0 : Int), AV.int IntKind.i64 (0 : Int), AV.nil]),
     ((4 : Nat),
     AV.lini (27 : Nat) IntKind.u32
     [(1 : Int), (2 : Int), (1 : Int), (3 : Int), (0 : Int), (4294967295 : Int),
     (33 : Int), (1 : Int)]),
     ((1000 : Nat),
     AV.box (83 : Nat)
     [AV.ints false IntKind.i64 l, AV.int IntKind.i64 (nextN l (nextN l n))])])) ∧
     ∀ (K : AS → Prop),
     chk
     (decide
     ((0 : Int) < (2 : Int) ∧
     (2 : Int) ≤ (1000000 : Int) ∧ (0 : Int) ≤ nextN l n ∧ nextN l n ≤ @Nat.cast Int _ l.length))
     (K
     (AS.mk
     [((0 : Nat), AV.ptr (1000 : Nat) (0 : Nat) (0 : Nat)),
     ((2 : Nat), AV.ptr (2 : Nat) (0 : Nat) (0 : Nat)),
     ((3 : Nat), AV.ptr (3 : Nat) (0 : Nat) (0 : Nat)), ((4 : Nat), AV.ownf (4 : Nat)),
     ((5 : Nat), AV.ptr (1000 : Nat) (0 : Nat) (0 : Nat)),
     ((6 : Nat), AV.int IntKind.i64 (nextR l n (8 : Int))),
     ((7 : Nat), AV.ptr (4 : Nat) (nextR l n (8 : Int)).toNat (0 : Nat)),
     ((8 : Nat),
     AV.int IntKind.u32
     ([(1 : Int), (2 : Int), (1 : Int), (3 : Int), (0 : Int), (4294967295 : Int),
     (33 : Int), (1 : Int)].getD
     (nextR l n (8 : Int)).toNat (0 : Int))),
     ((9 : Nat), AV.ptr (1000 : Nat) (0 : Nat) (0 : Nat)),
     ((10 : Nat), AV.int IntKind.i64 (nextR l (nextN l n) (2 : Int))),
     ((11 : Nat), AV.bool (nextR l (nextN l n) (2 : Int) == (1 : Int))),
     ((12 : Nat),
     AV.agg
     [AV.int IntKind.u32
     ([(1 : Int), (2 : Int), (1 : Int), (3 : Int), (0 : Int), (4294967295 : Int),
     (33 : Int), (1 : Int)].getD
     (nextR l n (8 : Int)).toNat (0 : Int)),
     AV.bool (nextR l (nextN l n) (2 : Int) == (1 : Int)),
     AV.int IntKind.i64 (0 : Int), AV.int IntKind.i64 (0 : Int),
     AV.int IntKind.i64 (0 : Int), AV.nil])]
     [((2 : Nat),
     AV.box (38 : Nat)
     [AV.int IntKind.u32 (0 : Int), AV.bool false, AV.int IntKind.i64 (0 : Int),
     AV.int IntKind.i64 (0 : Int), AV.int IntKind.i64 (0 : Int), AV.nil]),
     ((3 : Nat),
     AV.box (38 : Nat)
     [AV.int IntKind.u32
     ([(1 : Int), (2 : Int), (1 : Int), (3 : Int), (0 : Int), (4294967295 : Int),
     (33 : Int), (1 : Int)].getD
     (nextR l n (8 : Int)).toNat (0 : Int)),
     AV.bool (nextR l (nextN l n) (2 : Int) == (1 : Int)),
     AV.int IntKind.i64 (0 : Int), AV.int IntKind.i64 (0 : Int),
     AV.int IntKind.i64 (0 : Int), AV.nil]),
     ((4 : Nat),
     AV.lini (27 : Nat) IntKind.u32
     [(1 : Int), (2 : Int), (1 : Int), (3 : Int), (0 : Int), (4294967295 : Int),
     (33 : Int), (1 : Int)]),
     ((1000 : Nat),
     AV.box (83 : Nat)
     [AV.ints false IntKind.i64 l, AV.int IntKind.i64 (nextN l (nextN l n))])])) →
     chk
     (decide
     ((0 : Int) < (2 : Int) ∧
     (2 : Int) ≤ (1000000 : Int) ∧ (0 : Int) ≤ nextN l n ∧ nextN l n ≤ @Nat.cast Int _ l.length))
     (K
     (AS.mk
     [((0 : Nat), AV.ptr (1000 : Nat) (0 : Nat) (0 : Nat)),
     ((2 : Nat), AV.ptr (2 : Nat) (0 : Nat) (0 : Nat)),
     ((3 : Nat), AV.ptr (3 : Nat) (0 : Nat) (0 : Nat)), ((4 : Nat), AV.ownf (4 : Nat)),
     ((5 : Nat), AV.ptr (1000 : Nat) (0 : Nat) (0 : Nat)),
     ((6 : Nat), AV.int IntKind.i64 (nextR l n (8 : Int))),
     ((7 : Nat), AV.ptr (4 : Nat) (nextR l n (8 : Int)).toNat (0 : Nat)),
     ((8 : Nat),
     AV.int IntKind.u32
     ([(1 : Int), (2 : Int), (1 : Int), (3 : Int), (0 : Int), (4294967295 : Int),
     (33 : Int), (1 : Int)].getD
     (nextR l n (8 : Int)).toNat (0 : Int))),
     ((9 : Nat), AV.ptr (1000 : Nat) (0 : Nat) (0 : Nat)),
     ((10 : Nat), AV.int IntKind.i64 (nextR l (nextN l n) (2 : Int))),
     ((11 : Nat), AV.bool (nextR l (nextN l n) (2 : Int) == (1 : Int))),
     ((12 : Nat),
     AV.agg
     [AV.int IntKind.u32
     ([(1 : Int), (2 : Int), (1 : Int), (3 : Int), (0 : Int), (4294967295 : Int),
     (33 : Int), (1 : Int)].getD
     (nextR l n (8 : Int)).toNat (0 : Int)),
     AV.bool (nextR l (nextN l n) (2 : Int) == (1 : Int)),
     AV.int IntKind.i64 (0 : Int), AV.int IntKind.i64 (0 : Int),
     AV.int IntKind.i64 (0 : Int), AV.nil])]
     [((2 : Nat),
     AV.box (38 : Nat)
     [AV.int IntKind.u32 (0 : Int), AV.bool false, AV.int IntKind.i64 (0 : Int),
     AV.int IntKind.i64 (0 : Int), AV.int IntKind.i64 (0 : Int), AV.nil]),
     ((3 : Nat),
     AV.box (38 : Nat)
     [AV.int IntKind.u32
     ([(1 : Int), (2 : Int), (1 : Int), (3 : Int), (0 : Int), (4294967295 : Int),
     (33 : Int), (1 : Int)].getD
     (nextR l n (8 : Int)).toNat (0 : Int)),
     AV.bool (nextR l (nextN l n) (2 : Int) == (1 : Int)),
     AV.int IntKind.i64 (0 : Int), AV.int IntKind.i64 (0 : Int),
     AV.int IntKind.i64 (0 : Int), AV.nil]),
     ((4 : Nat),
     AV.lini (27 : Nat) IntKind.u32
     [(1 : Int), (2 : Int), (1 : Int), (3 : Int), (0 : Int), (4294967295 : Int),
     (33 : Int), (1 : Int)]),
     ((1000 : Nat),
     AV.box (83 : Nat)
     [AV.ints false IntKind.i64 l, AV.int IntKind.i64 (nextN l (nextN l n))])])))) →
     chk
     (decide
     ((0 : Int) < (2 : Int) ∧
     (2 : Int) ≤ (1000000 : Int) ∧ (0 : Int) ≤ nextN l n ∧ nextN l n ≤ @Nat.cast Int _ l.length))
     (chk (inB (nextR l n (8 : Int)) (8 : Nat))
     (chk (decide ((nextR l n (8 : Int)).toNat < (8 : Nat)))
     (K
     (AS.mk
     [((0 : Nat), AV.ptr (1000 : Nat) (0 : Nat) (0 : Nat)),
     ((2 : Nat), AV.ptr (2 : Nat) (0 : Nat) (0 : Nat)),
     ((3 : Nat), AV.ptr (3 : Nat) (0 : Nat) (0 : Nat)), ((4 : Nat), AV.ownf (4 : Nat)),
     ((5 : Nat), AV.ptr (1000 : Nat) (0 : Nat) (0 : Nat)),
     ((6 : Nat), AV.int IntKind.i64 (nextR l n (8 : Int))),
     ((7 : Nat), AV.ptr (4 : Nat) (nextR l n (8 : Int)).toNat (0 : Nat)),
     ((8 : Nat),
     AV.int IntKind.u32
     ([(1 : Int), (2 : Int), (1 : Int), (3 : Int), (0 : Int), (4294967295 : Int),
     (33 : Int), (1 : Int)].getD
     (nextR l n (8 : Int)).toNat (0 : Int))),
     ((9 : Nat), AV.ptr (1000 : Nat) (0 : Nat) (0 : Nat)),
     ((10 : Nat), AV.int IntKind.i64 (nextR l (nextN l n) (2 : Int))),
     ((11 : Nat), AV.bool (nextR l (nextN l n) (2 : Int) == (1 : Int))),
     ((12 : Nat),
     AV.agg
     [AV.int IntKind.u32
     ([(1 : Int), (2 : Int), (1 : Int), (3 : Int), (0 : Int), (4294967295 : Int),
     (33 : Int), (1 : Int)].getD
     (nextR l n (8 : Int)).toNat (0 : Int)),
     AV.bool (nextR l (nextN l n) (2 : Int) == (1 : Int)),
     AV.int IntKind.i64 (0 : Int), AV.int IntKind.i64 (0 : Int),
     AV.int IntKind.i64 (0 : Int), AV.nil])]
     [((2 : Nat),
     AV.box (38 : Nat)
     [AV.int IntKind.u32 (0 : Int), AV.bool false, AV.int IntKind.i64 (0 : Int),
     AV.int IntKind.i64 (0 : Int), AV.int IntKind.i64 (0 : Int), AV.nil]),
     ((3 : Nat),
     AV.box (38 : Nat)
     [AV.int IntKind.u32
     ([(1 : Int), (2 : Int), (1 : Int), (3 : Int), (0 : Int), (4294967295 : Int),
     (33 : Int), (1 : Int)].getD
     (nextR l n (8 : Int)).toNat (0 : Int)),
     AV.bool (nextR l (nextN l n) (2 : Int) == (1 : Int)),
     AV.int IntKind.i64 (0 : Int), AV.int IntKind.i64 (0 : Int),
     AV.int IntKind.i64 (0 : Int), AV.nil]),
     ((4 : Nat),
     AV.lini (27 : Nat) IntKind.u32
     [(1 : Int), (2 : Int), (1 : Int), (3 : Int), (0 : Int), (4294967295 : Int),
     (33 : Int), (1 : Int)]),
     ((1000 : Nat),
     AV.box (83 : Nat)
     [AV.ints false IntKind.i64 l, AV.int IntKind.i64 (nextN l (nextN l n))])]))) ∧
     ∀ (K : AS → Prop),
     chk (inB (nextR l n (8 : Int)) (8 : Nat))
     (chk (decide ((nextR l n (8 : Int)).toNat < (8 : Nat)))
     (K
     (AS.mk
     [((0 : Nat), AV.ptr (1000 : Nat) (0 : Nat) (0 : Nat)),
     ((2 : Nat), AV.ptr (2 : Nat) (0 : Nat) (0 : Nat)),
     ((3 : Nat), AV.ptr (3 : Nat) (0 : Nat) (0 : Nat)), ((4 : Nat), AV.ownf (4 : Nat)),
     ((5 : Nat), AV.ptr (1000 : Nat) (0 : Nat) (0 : Nat)),
     ((6 : Nat), AV.int IntKind.i64 (nextR l n (8 : Int))),
     ((7 : Nat), AV.ptr (4 : Nat) (nextR l n (8 : Int)).toNat (0 : Nat)),
     ((8 : Nat),
     AV.int IntKind.u32
     ([(1 : Int), (2 : Int), (1 : Int), (3 : Int), (0 : Int), (4294967295 : Int),
     (33 : Int), (1 : Int)].getD
     (nextR l n (8 : Int)).toNat (0 : Int))),
     ((9 : Nat), AV.ptr (1000 : Nat) (0 : Nat) (0 : Nat)),
     ((10 : Nat), AV.int IntKind.i64 (nextR l (nextN l n) (2 : Int))),
     ((11 : Nat), AV.bool (nextR l (nextN l n) (2 : Int) == (1 : Int))),
     ((12 : Nat),
     AV.agg
     [AV.int IntKind.u32
     ([(1 : Int), (2 : Int), (1 : Int), (3 : Int), (0 : Int), (4294967295 : Int),
     (33 : Int), (1 : Int)].getD
     (nextR l n (8 : Int)).toNat (0 : Int)),
     AV.bool (nextR l (nextN l n) (2 : Int) == (1 : Int)),
     AV.int IntKind.i64 (0 : Int), AV.int IntKind.i64 (0 : Int),
     AV.int IntKind.i64 (0 : Int), AV.nil])]
     [((2 : Nat),
     AV.box (38 : Nat)
     [AV.int IntKind.u32 (0 : Int), AV.bool false, AV.int IntKind.i64 (0 : Int),
     AV.int IntKind.i64 (0 : Int), AV.int IntKind.i64 (0 : Int), AV.nil]),
     ((3 : Nat),
     AV.box (38 : Nat)
     [AV.int IntKind.u32
     ([(1 : Int), (2 : Int), (1 : Int), (3 : Int), (0 : Int), (4294967295 : Int),
     (33 : Int), (1 : Int)].getD
     (nextR l n (8 : Int)).toNat (0 : Int)),
     AV.bool (nextR l (nextN l n) (2 : Int) == (1 : Int)),
     AV.int IntKind.i64 (0 : Int), AV.int IntKind.i64 (0 : Int),
     AV.int IntKind.i64 (0 : Int), AV.nil]),
     ((4 : Nat),
     AV.lini (27 : Nat) IntKind.u32
     [(1 : Int), (2 : Int), (1 : Int), (3 : Int), (0 : Int), (4294967295 : Int),
     (33 : Int), (1 : Int)]),
     ((1000 : Nat),
     AV.box (83 : Nat)
     [AV.ints false IntKind.i64 l, AV.int IntKind.i64 (nextN l (nextN l n))])]))) →
     chk (inB (nextR l n (8 : Int)) (8 : Nat))
     (chk (decide ((nextR l n (8 : Int)).toNat < (8 : Nat)))
     (K
     (AS.mk
     [((0 : Nat), AV.ptr (1000 : Nat) (0 : Nat) (0 : Nat)),
     ((2 : Nat), AV.ptr (2 : Nat) (0 : Nat) (0 : Nat)),
     ((3 : Nat), AV.ptr (3 : Nat) (0 : Nat) (0 : Nat)), ((4 : Nat), AV.ownf (4 : Nat)),
     ((5 : Nat), AV.ptr (1000 : Nat) (0 : Nat) (0 : Nat)),
     ((6 : Nat), AV.int IntKind.i64 (nextR l n (8 : Int))),
     ((7 : Nat), AV.ptr (4 : Nat) (nextR l n (8 : Int)).toNat (0 : Nat)),
     ((8 : Nat),
     AV.int IntKind.u32
     ([(1 : Int), (2 : Int), (1 : Int), (3 : Int), (0 : Int), (4294967295 : Int),
     (33 : Int), (1 : Int)].getD
     (nextR l n (8 : Int)).toNat (0 : Int))),
     ((9 : Nat), AV.ptr (1000 : Nat) (0 : Nat) (0 : Nat)),
     ((10 : Nat), AV.int IntKind.i64 (nextR l (nextN l n) (2 : Int))),
     ((11 : Nat), AV.bool (nextR l (nextN l n) (2 : Int) == (1 : Int))),
     ((12 : Nat),
     AV.agg
     [AV.int IntKind.u32
     ([(1 : Int), (2 : Int), (1 : Int), (3 : Int), (0 : Int), (4294967295 : Int),
     (33 : Int), (1 : Int)].getD
     (nextR l n (8 : Int)).toNat (0 : Int)),
     AV.bool (nextR l (nextN l n) (2 : Int) == (1 : Int)),
     AV.int IntKind.i64 (0 : Int), AV.int IntKind.i64 (0 : Int),
     AV.int IntKind.i64 (0 : Int), AV.nil])]
     [((2 : Nat),
     AV.box (38 : Nat)
     [AV.int IntKind.u32 (0 : Int), AV.bool false, AV.int IntKind.i64 (0 : Int),
     AV.int IntKind.i64 (0 : Int), AV.int IntKind.i64 (0 : Int), AV.nil]),
     ((3 : Nat),
     AV.box (38 : Nat)
     [AV.int IntKind.u32
     ([(1 : Int), (2 : Int), (1 : Int), (3 : Int), (0 : Int), (4294967295 : Int),
     (33 : Int), (1 : Int)].getD
     (nextR l n (8 : Int)).toNat (0 : Int)),
     AV.bool (nextR l (nextN l n) (2 : Int) == (1 : Int)),
     AV.int IntKind.i64 (0 : Int), AV.int IntKind.i64 (0 : Int),
     AV.int IntKind.i64 (0 : Int), AV.nil]),
     ((4 : Nat),
     AV.lini (27 : Nat) IntKind.u32
     [(1 : Int), (2 : Int), (1 : Int), (3 : Int), (0 : Int), (4294967295 : Int),
     (33 : Int), (1 : Int)]),
     ((1000 : Nat),
     AV.box (83 : Nat)
     [AV.ints false IntKind.i64 l, AV.int IntKind.i64 (nextN l (nextN l n))])])))) ∧
     ∀ (K : AS → Prop),
     chk
     (decide
     ((0 : Int) < (2 : Int) ∧
     (2 : Int) ≤ (1000000 : Int) ∧ (0 : Int) ≤ nextN l n ∧ nextN l n ≤ @Nat.cast Int _ l.length))
     (chk (inB (nextR l n (8 : Int)) (8 : Nat))
     (chk (decide ((nextR l n (8 : Int)).toNat < (8 : Nat)))
     (K
     (AS.mk
     [((0 : Nat), AV.ptr (1000 : Nat) (0 : Nat) (0 : Nat)),
     ((2 : Nat), AV.ptr (2 : Nat) (0 : Nat) (0 : Nat)),
     ((3 : Nat), AV.ptr (3 : Nat) (0 : Nat) (0 : Nat)), ((4 : Nat), AV.ownf (4 : Nat)),
     ((5 : Nat), AV.ptr (1000 : Nat) (0 : Nat) (0 : Nat)),
     ((6 : Nat), AV.int IntKind.i64 (nextR l n (8 : Int))),
     ((7 : Nat), AV.ptr (4 : Nat) (nextR l n (8 : Int)).toNat (0 : Nat)),
     ((8 : Nat),
     AV.int IntKind.u32
     ([(1 : Int), (2 : Int), (1 : Int), (3 : Int), (0 : Int), (4294967295 : Int),
     (33 : Int), (1 : Int)].getD
     (nextR l n (8 : Int)).toNat (0 : Int))),
     ((9 : Nat), AV.ptr (1000 : Nat) (0 : Nat) (0 : Nat)),
     ((10 : Nat), AV.int IntKind.i64 (nextR l (nextN l n) (2 : Int))),
     ((11 : Nat), AV.bool (nextR l (nextN l n) (2 : Int) == (1 : Int))),
     ((12 : Nat),
     AV.agg
     [AV.int IntKind.u32
     ([(1 : Int), (2 : Int), (1 : Int), (3 : Int), (0 : Int), (4294967295 : Int),
     (33 : Int), (1 : Int)].getD
     (nextR l n (8 : Int)).toNat (0 : Int)),
     AV.bool (nextR l (nextN l n) (2 : Int) == (1 : Int)),
     AV.int IntKind.i64 (0 : Int), AV.int IntKind.i64 (0 : Int),
     AV.int IntKind.i64 (0 : Int), AV.nil])]
     [((2 : Nat),
     AV.box (38 : Nat)
     [AV.int IntKind.u32 (0 : Int), AV.bool false, AV.int IntKind.i64 (0 : Int),
     AV.int IntKind.i64 (0 : Int), AV.int IntKind.i64 (0 : Int), AV.nil]),
     ((3 : Nat),
     AV.box (38 : Nat)
     [AV.int IntKind.u32
     ([(1 : Int), (2 : Int), (1 : Int), (3 : Int), (0 : Int), (4294967295 : Int),
     (33 : Int), (1 : Int)].getD
     (nextR l n (8 : Int)).toNat (0 : Int)),
     AV.bool (nextR l (nextN l n) (2 : Int) == (1 : Int)),
     AV.int IntKind.i64 (0 : Int), AV.int IntKind.i64 (0 : Int),
     AV.int IntKind.i64 (0 : Int), AV.nil]),
     ((4 : Nat),
     AV.lini (27 : Nat) IntKind.u32
     [(1 : Int), (2 : Int), (1 : Int), (3 : Int), (0 : Int), (4294967295 : Int),
     (33 : Int), (1 : Int)]),
     ((1000 : Nat),
     AV.box (83 : Nat)
     [AV.ints false IntKind.i64 l, AV.int IntKind.i64 (nextN l (nextN l n))])]))) ∧
     ∀ (K : AS → Prop),
     chk (inB (nextR l n (8 : Int)) (8 : Nat))
     (chk (decide ((nextR l n (8 : Int)).toNat < (8 : Nat)))
     (K
     (AS.mk
     [((0 : Nat), AV.ptr (1000 : Nat) (0 : Nat) (0 : Nat)),
     ((2 : Nat), AV.ptr (2 : Nat) (0 : Nat) (0 : Nat)),
     ((3 : Nat), AV.ptr (3 : Nat) (0 : Nat) (0 : Nat)),
     ((4 : Nat), AV.ownf (4 : Nat)),
     ((5 : Nat), AV.ptr (1000 : Nat) (0 : Nat) (0 : Nat)),
     ((6 : Nat), AV.int IntKind.i64 (nextR l n (8 : Int))),
     ((7 : Nat), AV.ptr (4 : Nat) (nextR l n (8 : Int)).toNat (0 : Nat)),
     ((8 : Nat),
     AV.int IntKind.u32
     ([(1 : Int), (2 : Int), (1 : Int), (3 : Int), (0 : Int), (4294967295 : Int),
     (33 : Int), (1 : Int)].getD
     (nextR l n (8 : Int)).toNat (0 : Int))),
     ((9 : Nat), AV.ptr (1000 : Nat) (0 : Nat) (0 : Nat)),
     ((10 : Nat), AV.int IntKind.i64 (nextR l (nextN l n) (2 : Int))),
     ((11 : Nat), AV.bool (nextR l (nextN l n) (2 : Int) == (1 : Int))),
     ((12 : Nat),
     AV.agg
     [AV.int IntKind.u32
     ([(1 : Int), (2 : Int), (1 : Int), (3 : Int), (0 : Int),
     (4294967295 : Int), (33 : Int), (1 : Int)].getD
     (nextR l n (8 : Int)).toNat (0 : Int)),
     AV.bool (nextR l (nextN l n) (2 : Int) == (1 : Int)),
     AV.int IntKind.i64 (0 : Int), AV.int IntKind.i64 (0 : Int),
     AV.int IntKind.i64 (0 : Int), AV.nil])]
     [((2 : Nat),
     AV.box (38 : Nat)
     [AV.int IntKind.u32 (0 : Int), AV.bool false, AV.int IntKind.i64 (0 : Int),
     AV.int IntKind.i64 (0 : Int), AV.int IntKind.i64 (0 : Int), AV.nil]),
     ((3 : Nat),
     AV.box (38 : Nat)
     [AV.int IntKind.u32
     ([(1 : Int), (2 : Int), (1 : Int), (3 : Int), (0 : Int),
     (4294967295 : Int), (33 : Int), (1 : Int)].getD
     (nextR l n (8 : Int)).toNat (0 : Int)),
     AV.bool (nextR l (nextN l n) (2 : Int) == (1 : Int)),
     AV.int IntKind.i64 (0 : Int), AV.int IntKind.i64 (0 : Int),
     AV.int IntKind.i64 (0 : Int), AV.nil]),
     ((4 : Nat),
     AV.lini (27 : Nat) IntKind.u32
     [(1 : Int), (2 : Int), (1 : Int), (3 : Int), (0 : Int), (4294967295 : Int),
     (33 : Int), (1 : Int)]),
     ((1000 : Nat),
     AV.box (83 : Nat)
     [AV.ints false IntKind.i64 l,
     AV.int IntKind.i64 (nextN l (nextN l n))])]))) →
     chk (inB (nextR l n (8 : Int)) (8 : Nat))
     (chk (decide ((nextR l n (8 : Int)).toNat < (8 : Nat)))
     (K
     (AS.mk
     [((0 : Nat), AV.ptr (1000 : Nat) (0 : Nat) (0 : Nat)),
     ((2 : Nat), AV.ptr (2 : Nat) (0 : Nat) (0 : Nat)),
     ((3 : Nat), AV.ptr (3 : Nat) (0 : Nat) (0 : Nat)),
     ((4 : Nat), AV.ownf (4 : Nat)),
     ((5 : Nat), AV.ptr (1000 : Nat) (0 : Nat) (0 : Nat)),
     ((6 : Nat), AV.int IntKind.i64 (nextR l n (8 : Int))),
     ((7 : Nat), AV.ptr (4 : Nat) (nextR l n (8 : Int)).toNat (0 : Nat)),
     ((8 : Nat),
     AV.int IntKind.u32
     ([(1 : Int), (2 : Int), (1 : Int), (3 : Int), (0 : Int), (4294967295 : Int),
     (33 : Int), (1 : Int)].getD
     (nextR l n (8 : Int)).toNat (0 : Int))),
     ((9 : Nat), AV.ptr (1000 : Nat) (0 : Nat) (0 : Nat)),
     ((10 : Nat), AV.int IntKind.i64 (nextR l (nextN l n) (2 : Int))),
     ((11 : Nat), AV.bool (nextR l (nextN l n) (2 : Int) == (1 : Int))),
     ((12 : Nat),
     AV.agg
     [AV.int IntKind.u32
     ([(1 : Int), (2 : Int), (1 : Int), (3 : Int), (0 : Int),
     (4294967295 : Int), (33 : Int), (1 : Int)].getD
     (nextR l n (8 : Int)).toNat (0 : Int)),
     AV.bool (nextR l (nextN l n) (2 : Int) == (1 : Int)),
     AV.int IntKind.i64 (0 : Int), AV.int IntKind.i64 (0 : Int),
     AV.int IntKind.i64 (0 : Int), AV.nil])]
     [((2 : Nat),
     AV.box (38 : Nat)
     [AV.int IntKind.u32 (0 : Int), AV.bool false, AV.int IntKind.i64 (0 : Int),
     AV.int IntKind.i64 (0 : Int), AV.int IntKind.i64 (0 : Int), AV.nil]),
     ((3 : Nat),
     AV.box (38 : Nat)
     [AV.int IntKind.u32
     ([(1 : Int), (2 : Int), (1 : Int), (3 : Int), (0 : Int),
     (4294967295 : Int), (33 : Int), (1 : Int)].getD
     (nextR l n (8 : Int)).toNat (0 : Int)),
     AV.bool (nextR l (nextN l n) (2 : Int) == (1 : Int)),
     AV.int IntKind.i64 (0 : Int), AV.int IntKind.i64 (0 : Int),
     AV.int IntKind.i64 (0 : Int), AV.nil]),
     ((4 : Nat),
     AV.lini (27 : Nat) IntKind.u32
     [(1 : Int), (2 : Int), (1 : Int), (3 : Int), (0 : Int), (4294967295 : Int),
     (33 : Int), (1 : Int)]),
     ((1000 : Nat),
     AV.box (83 : Nat)
     [AV.ints false IntKind.i64 l,
     AV.int IntKind.i64 (nextN l (nextN l n))])])))) →
     chk (inB (nextR l n (8 : Int)) (8 : Nat))
     (chk (decide ((nextR l n (8 : Int)).toNat < (8 : Nat)))
     (chk
     (decide
     ((0 : Int) < (2 : Int) ∧
     (2 : Int) ≤ (1000000 : Int) ∧ (0 : Int) ≤ nextN l n ∧ nextN l n ≤ @Nat.cast Int _ l.length))
     (K
     (AS.mk
     [((0 : Nat), AV.ptr (1000 : Nat) (0 : Nat) (0 : Nat)),
     ((2 : Nat), AV.ptr (2 : Nat) (0 : Nat) (0 : Nat)),
     ((3 : Nat), AV.ptr (3 : Nat) (0 : Nat) (0 : Nat)), ((4 : Nat), AV.ownf (4 : Nat)),
     ((5 : Nat), AV.ptr (1000 : Nat) (0 : Nat) (0 : Nat)),
     ((6 : Nat), AV.int IntKind.i64 (nextR l n (8 : Int))),
     ((7 : Nat), AV.ptr (4 : Nat) (nextR l n (8 : Int)).toNat (0 : Nat)),
     ((8 : Nat),
     AV.int IntKind.u32
     ([(1 : Int), (2 : Int), (1 : Int), (3 : Int), (0 : Int), (4294967295 : Int),
     (33 : Int), (1 : Int)].getD
     (nextR l n (8 : Int)).toNat (0 : Int))),
     ((9 : Nat), AV.ptr (1000 : Nat) (0 : Nat) (0 : Nat)),
     ((10 : Nat), AV.int IntKind.i64 (nextR l (nextN l n) (2 : Int))),
     ((11 : Nat), AV.bool (nextR l (nextN l n) (2 : Int) == (1 : Int))),
     ((12 : Nat),
     AV.agg
     [AV.int IntKind.u32
     ([(1 : Int), (2 : Int), (1 : Int), (3 : Int), (0 : Int), (4294967295 : Int),
     (33 : Int), (1 : Int)].getD
     (nextR l n (8 : Int)).toNat (0 : Int)),
     AV.bool (nextR l (nextN l n) (2 : Int) == (1 : Int)),
     AV.int IntKind.i64 (0 : Int), AV.int IntKind.i64 (0 : Int),
     AV.int IntKind.i64 (0 : Int), AV.nil])]
     [((2 : Nat),
     AV.box (38 : Nat)
     [AV.int IntKind.u32 (0 : Int), AV.bool false, AV.int IntKind.i64 (0 : Int),
     AV.int IntKind.i64 (0 : Int), AV.int IntKind.i64 (0 : Int), AV.nil]),
     ((3 : Nat),
     AV.box (38 : Nat)
     [AV.int IntKind.u32
     ([(1 : Int), (2 : Int), (1 : Int), (3 : Int), (0 : Int), (4294967295 : Int),
     (33 : Int), (1 : Int)].getD
     (nextR l n (8 : Int)).toNat (0 : Int)),
     AV.bool (nextR l (nextN l n) (2 : Int) == (1 : Int)),
     AV.int IntKind.i64 (0 : Int), AV.int IntKind.i64 (0 : Int),
     AV.int IntKind.i64 (0 : Int), AV.nil]),
     ((4 : Nat),
     AV.lini (27 : Nat) IntKind.u32
     [(1 : Int), (2 : Int), (1 : Int), (3 : Int), (0 : Int), (4294967295 : Int),
     (33 : Int), (1 : Int)]),
     ((1000 : Nat),
     AV.box (83 : Nat)
     [AV.ints false IntKind.i64 l, AV.int IntKind.i64 (nextN l (nextN l n))])])))) ∧
     ∀ (K : AS → Prop),
     chk (inB (nextR l n (8 : Int)) (8 : Nat))
     (chk (decide ((nextR l n (8 : Int)).toNat < (8 : Nat)))
     (chk
     (decide
     ((0 : Int) < (2 : Int) ∧
     (2 : Int) ≤ (1000000 : Int) ∧
     (0 : Int) ≤ nextN l n ∧ nextN l n ≤ @Nat.cast Int _ l.length))
     (K
     (AS.mk
     [((0 : Nat), AV.ptr (1000 : Nat) (0 : Nat) (0 : Nat)),
     ((2 : Nat), AV.ptr (2 : Nat) (0 : Nat) (0 : Nat)),
     ((3 : Nat), AV.ptr (3 : Nat) (0 : Nat) (0 : Nat)),
     ((4 : Nat), AV.ownf (4 : Nat)),
     ((5 : Nat), AV.ptr (1000 : Nat) (0 : Nat) (0 : Nat)),
     ((6 : Nat), AV.int IntKind.i64 (nextR l n (8 : Int))),
     ((7 : Nat), AV.ptr (4 : Nat) (nextR l n (8 : Int)).toNat (0 : Nat)),
     ((8 : Nat),
     AV.int IntKind.u32
     ([(1 : Int), (2 : Int), (1 : Int), (3 : Int), (0 : Int), (4294967295 : Int),
     (33 : Int), (1 : Int)].getD
     (nextR l n (8 : Int)).toNat (0 : Int))),
     ((9 : Nat), AV.ptr (1000 : Nat) (0 : Nat) (0 : Nat)),
     ((10 : Nat), AV.int IntKind.i64 (nextR l (nextN l n) (2 : Int))),
     ((11 : Nat), AV.bool (nextR l (nextN l n) (2 : Int) == (1 : Int))),
     ((12 : Nat),
     AV.agg
     [AV.int IntKind.u32
     ([(1 : Int), (2 : Int), (1 : Int), (3 : Int), (0 : Int),
     (4294967295 : Int), (33 : Int), (1 : Int)].getD
     (nextR l n (8 : Int)).toNat (0 : Int)),
     AV.bool (nextR l (nextN l n) (2 : Int) == (1 : Int)),
     AV.int IntKind.i64 (0 : Int), AV.int IntKind.i64 (0 : Int),
     AV.int IntKind.i64 (0 : Int), AV.nil])]
     [((2 : Nat),
     AV.box (38 : Nat)
     [AV.int IntKind.u32 (0 : Int), AV.bool false, AV.int IntKind.i64 (0 : Int),
     AV.int IntKind.i64 (0 : Int), AV.int IntKind.i64 (0 : Int), AV.nil]),
     ((3 : Nat),
     AV.box (38 : Nat)
     [AV.int IntKind.u32
     ([(1 : Int), (2 : Int), (1 : Int), (3 : Int), (0 : Int),
     (4294967295 : Int), (33 : Int), (1 : Int)].getD
     (nextR l n (8 : Int)).toNat (0 : Int)),
     AV.bool (nextR l (nextN l n) (2 : Int) == (1 : Int)),
     AV.int IntKind.i64 (0 : Int), AV.int IntKind.i64 (0 : Int),
     AV.int IntKind.i64 (0 : Int), AV.nil]),
     ((4 : Nat),
     AV.lini (27 : Nat) IntKind.u32
     [(1 : Int), (2 : Int), (1 : Int), (3 : Int), (0 : Int), (4294967295 : Int),
     (33 : Int), (1 : Int)]),
     ((1000 : Nat),
     AV.box (83 : Nat)
     [AV.ints false IntKind.i64 l,
     AV.int IntKind.i64 (nextN l (nextN l n))])])))) →
     chk
     (decide
     ((0 : Int) < (2 : Int) ∧
     (2 : Int) ≤ (1000000 : Int) ∧ (0 : Int) ≤ nextN l n ∧ nextN l n ≤ @Nat.cast Int _ l.length))
     (chk (inB (nextR l n (8 : Int)) (8 : Nat))
     (chk (decide ((nextR l n (8 : Int)).toNat < (8 : Nat)))
     (K
     (AS.mk
     [((0 : Nat), AV.ptr (1000 : Nat) (0 : Nat) (0 : Nat)),
     ((2 : Nat), AV.ptr (2 : Nat) (0 : Nat) (0 : Nat)),
     ((3 : Nat), AV.ptr (3 : Nat) (0 : Nat) (0 : Nat)),
     ((4 : Nat), AV.ownf (4 : Nat)),
     ((5 : Nat), AV.ptr (1000 : Nat) (0 : Nat) (0 : Nat)),
     ((6 : Nat), AV.int IntKind.i64 (nextR l n (8 : Int))),
     ((7 : Nat), AV.ptr (4 : Nat) (nextR l n (8 : Int)).toNat (0 : Nat)),
     ((8 : Nat),
     AV.int IntKind.u32
     ([(1 : Int), (2 : Int), (1 : Int), (3 : Int), (0 : Int), (4294967295 : Int),
     (33 : Int), (1 : Int)].getD
     (nextR l n (8 : Int)).toNat (0 : Int))),
     ((9 : Nat), AV.ptr (1000 : Nat) (0 : Nat) (0 : Nat)),
     ((10 : Nat), AV.int IntKind.i64 (nextR l (nextN l n) (2 : Int))),
     ((11 : Nat), AV.bool (nextR l (nextN l n) (2 : Int) == (1 : Int))),
     ((12 : Nat),
     AV.agg
     [AV.int IntKind.u32
     ([(1 : Int), (2 : Int), (1 : Int), (3 : Int), (0 : Int),
     (4294967295 : Int), (33 : Int), (1 : Int)].getD
     (nextR l n (8 : Int)).toNat (0 : Int)),
     AV.bool (nextR l (nextN l n) (2 : Int) == (1 : Int)),
     AV.int IntKind.i64 (0 : Int), AV.int IntKind.i64 (0 : Int),
     AV.int IntKind.i64 (0 : Int), AV.nil])]
     [((2 : Nat),
     AV.box (38 : Nat)
     [AV.int IntKind.u32 (0 : Int), AV.bool false, AV.int IntKind.i64 (0 : Int),
     AV.int IntKind.i64 (0 : Int), AV.int IntKind.i64 (0 : Int), AV.nil]),
     ((3 : Nat),
     AV.box (38 : Nat)
     [AV.int IntKind.u32
     ([(1 : Int), (2 : Int), (1 : Int), (3 : Int), (0 : Int),
     (4294967295 : Int), (33 : Int), (1 : Int)].getD
     (nextR l n (8 : Int)).toNat (0 : Int)),
     AV.bool (nextR l (nextN l n) (2 : Int) == (1 : Int)),
     AV.int IntKind.i64 (0 : Int), AV.int IntKind.i64 (0 : Int),
     AV.int IntKind.i64 (0 : Int), AV.nil]),
     ((4 : Nat),
     AV.lini (27 : Nat) IntKind.u32
     [(1 : Int), (2 : Int), (1 : Int), (3 : Int), (0 : Int), (4294967295 : Int),
     (33 : Int), (1 : Int)]),
     ((1000 : Nat),
     AV.box (83 : Nat)
     [AV.ints false IntKind.i64 l,
     AV.int IntKind.i64 (nextN l (nextN l n))])]))))) ∧
     ∀ (K : AS → Prop),
     chk (decide ((0 : Int) < (8 : Int) ∧ (8 : Int) ≤ (1000000 : Int) ∧ (0 : Int) ≤ n ∧ n ≤ @Nat.cast Int _ l.length))
     (chk (inB (nextR l n (8 : Int)) (8 : Nat))
     (chk (decide ((nextR l n (8 : Int)).toNat < (8 : Nat)))
     (chk
     (decide
     ((0 : Int) < (2 : Int) ∧
     (2 : Int) ≤ (1000000 : Int) ∧ (0 : Int) ≤ nextN l n ∧ nextN l n ≤ @Nat.cast Int _ l.length))
     (K
     (AS.mk
     [((0 : Nat), AV.ptr (1000 : Nat) (0 : Nat) (0 : Nat)),
     ((2 : Nat), AV.ptr (2 : Nat) (0 : Nat) (0 : Nat)),
     ((3 : Nat), AV.ptr (3 : Nat) (0 : Nat) (0 : Nat)), ((4 : Nat), AV.ownf (4 : Nat)),
     ((5 : Nat), AV.ptr (1000 : Nat) (0 : Nat) (0 : Nat)),
     ((6 : Nat), AV.int IntKind.i64 (nextR l n (8 : Int))),
     ((7 : Nat), AV.ptr (4 : Nat) (nextR l n (8 : Int)).toNat (0 : Nat)),
     ((8 : Nat),
     AV.int IntKind.u32
     ([(1 : Int), (2 : Int), (1 : Int), (3 : Int), (0 : Int), (4294967295 : Int),
     (33 : Int), (1 : Int)].getD
     (nextR l n (8 : Int)).toNat (0 : Int))),
     ((9 : Nat), AV.ptr (1000 : Nat) (0 : Nat) (0 : Nat)),
     ((10 : Nat), AV.int IntKind.i64 (nextR l (nextN l n) (2 : Int))),
     ((11 : Nat), AV.bool (nextR l (nextN l n) (2 : Int) == (1 : Int))),
     ((12 : Nat),
     AV.agg
     [AV.int IntKind.u32
     ([(1 : Int), (2 : Int), (1 : Int), (3 : Int), (0 : Int), (4294967295 : Int),
     (33 : Int), (1 : Int)].getD
     (nextR l n (8 : Int)).toNat (0 : Int)),
     AV.bool (nextR l (nextN l n) (2 : Int) == (1 : Int)), AV.int IntKind.i64 (0 : Int),
     AV.int IntKind.i64 (0 : Int), AV.int IntKind.i64 (0 : Int), AV.nil])]
     [((2 : Nat),
     AV.box (38 : Nat)
     [AV.int IntKind.u32 (0 : Int), AV.bool false, AV.int IntKind.i64 (0 : Int),
     AV.int IntKind.i64 (0 : Int), AV.int IntKind.i64 (0 : Int), AV.nil]),
     ((3 : Nat),
     AV.box (38 : Nat)
     [AV.int IntKind.u32
     ([(1 : Int), (2 : Int), (1 : Int), (3 : Int), (0 : Int), (4294967295 : Int),
     (33 : Int), (1 : Int)].getD
     (nextR l n (8 : Int)).toNat (0 : Int)),
     AV.bool (nextR l (nextN l n) (2 : Int) == (1 : Int)), AV.int IntKind.i64 (0 : Int),
     AV.int IntKind.i64 (0 : Int), AV.int IntKind.i64 (0 : Int), AV.nil]),
     ((4 : Nat),
     AV.lini (27 : Nat) IntKind.u32
     [(1 : Int), (2 : Int), (1 : Int), (3 : Int), (0 : Int), (4294967295 : Int),
     (33 : Int), (1 : Int)]),
     ((1000 : Nat),
     AV.box (83 : Nat)
     [AV.ints false IntKind.i64 l, AV.int IntKind.i64 (nextN l (nextN l n))])])) ∧
     ∀ (K : AS → Prop),
     chk
     (decide
     ((0 : Int) < (2 : Int) ∧
     (2 : Int) ≤ (1000000 : Int) ∧ (0 : Int) ≤ nextN l n ∧ nextN l n ≤ @Nat.cast Int _ l.length))
     (K
     (AS.mk
     [((0 : Nat), AV.ptr (1000 : Nat) (0 : Nat) (0 : Nat)),
     ((2 : Nat), AV.ptr (2 : Nat) (0 : Nat) (0 : Nat)),
     ((3 : Nat), AV.ptr (3 : Nat) (0 : Nat) (0 : Nat)), ((4 : Nat), AV.ownf (4 : Nat)),
     ((5 : Nat), AV.ptr (1000 : Nat) (0 : Nat) (0 : Nat)),
     ((6 : Nat), AV.int IntKind.i64 (nextR l n (8 : Int))),
     ((7 : Nat), AV.ptr (4 : Nat) (nextR l n (8 : Int)).toNat (0 : Nat)),
     ((8 : Nat),
     AV.int IntKind.u32
     ([(1 : Int), (2 : Int), (1 : Int), (3 : Int), (0 : Int), (4294967295 : Int),
     (33 : Int), (1 : Int)].getD
     (nextR l n (8 : Int)).toNat (0 : Int))),
     ((9 : Nat), AV.ptr (1000 : Nat) (0 : Nat) (0 : Nat)),
     ((10 : Nat), AV.int IntKind.i64 (nextR l (nextN l n) (2 : Int))),
     ((11 : Nat), AV.bool (nextR l (nextN l n) (2 : Int) == (1 : Int))),
     ((12 : Nat),
     AV.agg
     [AV.int IntKind.u32
     ([(1 : Int), (2 : Int), (1 : Int), (3 : Int), (0 : Int), (4294967295 : Int),
     (33 : Int), (1 : Int)].getD
     (nextR l n (8 : Int)).toNat (0 : Int)),
     AV.bool (nextR l (nextN l n) (2 : Int) == (1 : Int)),
     AV.int IntKind.i64 (0 : Int), AV.int IntKind.i64 (0 : Int),
     AV.int IntKind.i64 (0 : Int), AV.nil])]
     [((2 : Nat),
     AV.box (38 : Nat)
     [AV.int IntKind.u32 (0 : Int), AV.bool false, AV.int IntKind.i64 (0 : Int),
     AV.int IntKind.i64 (0 : Int), AV.int IntKind.i64 (0 : Int), AV.nil]),
     ((3 : Nat),
     AV.box (38 : Nat)
     [AV.int IntKind.u32
     ([(1 : Int), (2 : Int), (1 : Int), (3 : Int), (0 : Int), (4294967295 : Int),
     (33 : Int), (1 : Int)].getD
     (nextR l n (8 : Int)).toNat (0 : Int)),
     AV.bool (nextR l (nextN l n) (2 : Int) == (1 : Int)),
     AV.int IntKind.i64 (0 : Int), AV.int IntKind.i64 (0 : Int),
     AV.int IntKind.i64 (0 : Int), AV.nil]),
     ((4 : Nat),
     AV.lini (27 : Nat) IntKind.u32
     [(1 : Int), (2 : Int), (1 : Int), (3 : Int), (0 : Int), (4294967295 : Int),
     (33 : Int), (1 : Int)]),
     ((1000 : Nat),
     AV.box (83 : Nat)
     [AV.ints false IntKind.i64 l, AV.int IntKind.i64 (nextN l (nextN l n))])])) →
     chk
     (decide
     ((0 : Int) < (2 : Int) ∧
     (2 : Int) ≤ (1000000 : Int) ∧ (0 : Int) ≤ nextN l n ∧ nextN l n ≤ @Nat.cast Int _ l.length))
     (K
     (AS.mk
     [((0 : Nat), AV.ptr (1000 : Nat) (0 : Nat) (0 : Nat)),
     ((2 : Nat), AV.ptr (2 : Nat) (0 : Nat) (0 : Nat)),
     ((3 : Nat), AV.ptr (3 : Nat) (0 : Nat) (0 : Nat)), ((4 : Nat), AV.ownf (4 : Nat)),
     ((5 : Nat), AV.ptr (1000 : Nat) (0 : Nat) (0 : Nat)),
     ((6 : Nat), AV.int IntKind.i64 (nextR l n (8 : Int))),
     ((7 : Nat), AV.ptr (4 : Nat) (nextR l n (8 : Int)).toNat (0 : Nat)),
     ((8 : Nat),
     AV.int IntKind.u32
     ([(1 : Int), (2 : Int), (1 : Int), (3 : Int), (0 : Int), (4294967295 : Int),
     (33 : Int), (1 : Int)].getD
     (nextR l n (8 : Int)).toNat (0 : Int))),
     ((9 : Nat), AV.ptr (1000 : Nat) (0 : Nat) (0 : Nat)),
     ((10 : Nat), AV.int IntKind.i64 (nextR l (nextN l n) (2 : Int))),
     ((11 : Nat), AV.bool (nextR l (nextN l n) (2 : Int) == (1 : Int))),
     ((12 : Nat),
     AV.agg
     [AV.int IntKind.u32
     ([(1 : Int), (2 : Int), (1 : Int), (3 : Int), (0 : Int), (4294967295 : Int),
     (33 : Int), (1 : Int)].getD
     (nextR l n (8 : Int)).toNat (0 : Int)),
     AV.bool (nextR l (nextN l n) (2 : Int) == (1 : Int)),
     AV.int IntKind.i64 (0 : Int), AV.int IntKind.i64 (0 : Int),
     AV.int IntKind.i64 (0 : Int), AV.nil])]
     [((2 : Nat),
     AV.box (38 : Nat)
     [AV.int IntKind.u32 (0 : Int), AV.bool false, AV.int IntKind.i64 (0 : Int),
     AV.int IntKind.i64 (0 : Int), AV.int IntKind.i64 (0 : Int), AV.nil]),
     ((3 : Nat),
     AV.box (38 : Nat)
     [AV.int IntKind.u32
     ([(1 : Int), (2 : Int), (1 : Int), (3 : Int), (0 : Int), (4294967295 : Int),
     (33 : Int), (1 : Int)].getD
     (nextR l n (8 : Int)).toNat (0 : Int)),
     AV.bool (nextR l (nextN l n) (2 : Int) == (1 : Int)),
     AV.int IntKind.i64 (0 : Int), AV.int IntKind.i64 (0 : Int),
     AV.int IntKind.i64 (0 : Int), AV.nil]),
     ((4 : Nat),
     AV.lini (27 : Nat) IntKind.u32
     [(1 : Int), (2 : Int), (1 : Int), (3 : Int), (0 : Int), (4294967295 : Int),
     (33 : Int), (1 : Int)]),
     ((1000 : Nat),
     AV.box (83 : Nat)
     [AV.ints false IntKind.i64 l, AV.int IntKind.i64 (nextN l (nextN l n))])])))) ∧
     ∀ (K : AS → Prop),
     chk (inB (nextR l n (8 : Int)) (8 : Nat))
     (chk (decide ((nextR l n (8 : Int)).toNat < (8 : Nat)))
     (chk
     (decide
     ((0 : Int) < (2 : Int) ∧
     (2 : Int) ≤ (1000000 : Int) ∧ (0 : Int) ≤ nextN l n ∧ nextN l n ≤ @Nat.cast Int _ l.length))
     (K
     (AS.mk
     [((0 : Nat), AV.ptr (1000 : Nat) (0 : Nat) (0 : Nat)),
     ((2 : Nat), AV.ptr (2 : Nat) (0 : Nat) (0 : Nat)),
     ((3 : Nat), AV.ptr (3 : Nat) (0 : Nat) (0 : Nat)), ((4 : Nat), AV.ownf (4 : Nat)),
     ((5 : Nat), AV.ptr (1000 : Nat) (0 : Nat) (0 : Nat)),
     ((6 : Nat), AV.int IntKind.i64 (nextR l n (8 : Int))),
     ((7 : Nat), AV.ptr (4 : Nat) (nextR l n (8 : Int)).toNat (0 : Nat)),
     ((8 : Nat),
     AV.int IntKind.u32
     ([(1 : Int), (2 : Int), (1 : Int), (3 : Int), (0 : Int), (4294967295 : Int),
     (33 : Int), (1 : Int)].getD
     (nextR l n (8 : Int)).toNat (0 : Int))),
     ((9 : Nat), AV.ptr (1000 : Nat) (0 : Nat) (0 : Nat)),
     ((10 : Nat), AV.int IntKind.i64 (nextR l (nextN l n) (2 : Int))),
     ((11 : Nat), AV.bool (nextR l (nextN l n) (2 : Int) == (1 : Int))),
     ((12 : Nat),
     AV.agg
     [AV.int IntKind.u32
     ([(1 : Int), (2 : Int), (1 : Int), (3 : Int), (0 : Int), (4294967295 : Int),
     (33 : Int), (1 : Int)].getD
     (nextR l n (8 : Int)).toNat (0 : Int)),
     AV.bool (nextR l (nextN l n) (2 : Int) == (1 : Int)),
     AV.int IntKind.i64 (0 : Int), AV.int IntKind.i64 (0 : Int),
     AV.int IntKind.i64 (0 : Int), AV.nil])]
     [((2 : Nat),
     AV.box (38 : Nat)
     [AV.int IntKind.u32 (0 : Int), AV.bool false, AV.int IntKind.i64 (0 : Int),
     AV.int IntKind.i64 (0 : Int), AV.int IntKind.i64 (0 : Int), AV.nil]),
     ((3 : Nat),
     AV.box (38 : Nat)
     [AV.int IntKind.u32
     ([(1 : Int), (2 : Int), (1 : Int), (3 : Int), (0 : Int), (4294967295 : Int),
     (33 : Int), (1 : Int)].getD
     (nextR l n (8 : Int)).toNat (0 : Int)),
     AV.bool (nextR l (nextN l n) (2 : Int) == (1 : Int)),
     AV.int IntKind.i64 (0 : Int), AV.int IntKind.i64 (0 : Int),
     AV.int IntKind.i64 (0 : Int), AV.nil]),
     ((4 : Nat),
     AV.lini (27 : Nat) IntKind.u32
     [(1 : Int), (2 : Int), (1 : Int), (3 : Int), (0 : Int), (4294967295 : Int),
     (33 : Int), (1 : Int)]),
     ((1000 : Nat),
     AV.box (83 : Nat)
     [AV.ints false IntKind.i64 l, AV.int IntKind.i64 (nextN l (nextN l n))])])) ∧
     ∀ (K : AS → Prop),
     chk
     (decide
     ((0 : Int) < (2 : Int) ∧
     (2 : Int) ≤ (1000000 : Int) ∧
     (0 : Int) ≤ nextN l n ∧ nextN l n ≤ @Nat.cast Int _ l.length))
     (K
     (AS.mk
     [((0 : Nat), AV.ptr (1000 : Nat) (0 : Nat) (0 : Nat)),
     ((2 : Nat), AV.ptr (2 : Nat) (0 : Nat) (0 : Nat)),
     ((3 : Nat), AV.ptr (3 : Nat) (0 : Nat) (0 : Nat)), ((4 : Nat), AV.ownf (4 : Nat)),
     ((5 : Nat), AV.ptr (1000 : Nat) (0 : Nat) (0 : Nat)),
     ((6 : Nat), AV.int IntKind.i64 (nextR l n (8 : Int))),
     ((7 : Nat), AV.ptr (4 : Nat) (nextR l n (8 : Int)).toNat (0 : Nat)),
     ((8 : Nat),
     AV.int IntKind.u32
     ([(1 : Int), (2 : Int), (1 : Int), (3 : Int), (0 : Int), (4294967295 : Int),
     (33 : Int), (1 : Int)].getD
     (nextR l n (8 : Int)).toNat (0 : Int))),
     ((9 : Nat), AV.ptr (1000 : Nat) (0 : Nat) (0 : Nat)),
     ((10 : Nat), AV.int IntKind.i64 (nextR l (nextN l n) (2 : Int))),
     ((11 : Nat), AV.bool (nextR l (nextN l n) (2 : Int) == (1 : Int))),
     ((12 : Nat),
     AV.agg
     [AV.int IntKind.u32
     ([(1 : Int), (2 : Int), (1 : Int), (3 : Int), (0 : Int),
     (4294967295 : Int), (33 : Int), (1 : Int)].getD
     (nextR l n (8 : Int)).toNat (0 : Int)),
     AV.bool (nextR l (nextN l n) (2 : Int) == (1 : Int)),
     AV.int IntKind.i64 (0 : Int), AV.int IntKind.i64 (0 : Int),
     AV.int IntKind.i64 (0 : Int), AV.nil])]
     [((2 : Nat),
     AV.box (38 : Nat)
     [AV.int IntKind.u32 (0 : Int), AV.bool false, AV.int IntKind.i64 (0 : Int),
     AV.int IntKind.i64 (0 : Int), AV.int IntKind.i64 (0 : Int), AV.nil]),
     ((3 : Nat),
     AV.box (38 : Nat)
     [AV.int IntKind.u32
     ([(1 : Int), (2 : Int), (1 : Int), (3 : Int), (0 : Int),
     (4294967295 : Int), (33 : Int), (1 : Int)].getD
     (nextR l n (8 : Int)).toNat (0 : Int)),
     AV.bool (nextR l (nextN l n) (2 : Int) == (1 : Int)),
     AV.int IntKind.i64 (0 : Int), AV.int IntKind.i64 (0 : Int),
     AV.int IntKind.i64 (0 : Int), AV.nil]),
     ((4 : Nat),
     AV.lini (27 : Nat) IntKind.u32
     [(1 : Int), (2 : Int), (1 : Int), (3 : Int), (0 : Int), (4294967295 : Int),
     (33 : Int), (1 : Int)]),
     ((1000 : Nat),
     AV.box (83 : Nat)
     [AV.ints false IntKind.i64 l, AV.int IntKind.i64 (nextN l (nextN l n))])])) →
     chk
     (decide
     ((0 : Int) < (2 : Int) ∧
     (2 : Int) ≤ (1000000 : Int) ∧
     (0 : Int) ≤ nextN l n ∧ nextN l n ≤ @Nat.cast Int _ l.length))
     (K
     (AS.mk
     [((0 : Nat), AV.ptr (1000 : Nat) (0 : Nat) (0 : Nat)),
     ((2 : Nat), AV.ptr (2 : Nat) (0 : Nat) (0 : Nat)),
     ((3 : Nat), AV.ptr (3 : Nat) (0 : Nat) (0 : Nat)), ((4 : Nat), AV.ownf (4 : Nat)),
     ((5 : Nat), AV.ptr (1000 : Nat) (0 : Nat) (0 : Nat)),
     ((6 : Nat), AV.int IntKind.i64 (nextR l n (8 : Int))),
     ((7 : Nat), AV.ptr (4 : Nat) (nextR l n (8 : Int)).toNat (0 : Nat)),
     ((8 : Nat),
     AV.int IntKind.u32
     ([(1 : Int), (2 : Int), (1 : Int), (3 : Int), (0 : Int), (4294967295 : Int),
     (33 : Int), (1 : Int)].getD
     (nextR l n (8 : Int)).toNat (0 : Int))),
     ((9 : Nat), AV.ptr (1000 : Nat) (0 : Nat) (0 : Nat)),
     ((10 : Nat), AV.int IntKind.i64 (nextR l (nextN l n) (2 : Int))),
     ((11 : Nat), AV.bool (nextR l (nextN l n) (2 : Int) == (1 : Int))),
     ((12 : Nat),
     AV.agg
     [AV.int IntKind.u32
     ([(1 : Int), (2 : Int), (1 : Int), (3 : Int), (0 : Int),
     (4294967295 : Int), (33 : Int), (1 : Int)].getD
     (nextR l n (8 : Int)).toNat (0 : Int)),
     AV.bool (nextR l (nextN l n) (2 : Int) == (1 : Int)),
     AV.int IntKind.i64 (0 : Int), AV.int IntKind.i64 (0 : Int),
     AV.int IntKind.i64 (0 : Int), AV.nil])]
     [((2 : Nat),
     AV.box (38 : Nat)
     [AV.int IntKind.u32 (0 : Int), AV.bool false, AV.int IntKind.i64 (0 : Int),
     AV.int IntKind.i64 (0 : Int), AV.int IntKind.i64 (0 : Int), AV.nil]),
     ((3 : Nat),
     AV.box (38 : Nat)
     [AV.int IntKind.u32
     ([(1 : Int), (2 : Int), (1 : Int), (3 : Int), (0 : Int),
     (4294967295 : Int), (33 : Int), (1 : Int)].getD
     (nextR l n (8 : Int)).toNat (0 : Int)),
     AV.bool (nextR l (nextN l n) (2 : Int) == (1 : Int)),
     AV.int IntKind.i64 (0 : Int), AV.int IntKind.i64 (0 : Int),
     AV.int IntKind.i64 (0 : Int), AV.nil]),
     ((4 : Nat),
     AV.lini (27 : Nat) IntKind.u32
     [(1 : Int), (2 : Int), (1 : Int), (3 : Int), (0 : Int), (4294967295 : Int),
     (33 : Int), (1 : Int)]),
     ((1000 : Nat),
     AV.box (83 : Nat)
     [AV.ints false IntKind.i64 l,
     AV.int IntKind.i64 (nextN l (nextN l n))])])))) →
     chk
     (decide
     ((0 : Int) < (2 : Int) ∧
     (2 : Int) ≤ (1000000 : Int) ∧ (0 : Int) ≤ nextN l n ∧ nextN l n ≤ @Nat.cast Int _ l.length))
     (chk (inB (nextR l n (8 : Int)) (8 : Nat))
     (chk (decide ((nextR l n (8 : Int)).toNat < (8 : Nat)))
     (K
     (AS.mk
     [((0 : Nat), AV.ptr (1000 : Nat) (0 : Nat) (0 : Nat)),
     ((2 : Nat), AV.ptr (2 : Nat) (0 : Nat) (0 : Nat)),
     ((3 : Nat), AV.ptr (3 : Nat) (0 : Nat) (0 : Nat)), ((4 : Nat), AV.ownf (4 : Nat)),
     ((5 : Nat), AV.ptr (1000 : Nat) (0 : Nat) (0 : Nat)),
     ((6 : Nat), AV.int IntKind.i64 (nextR l n (8 : Int))),
     ((7 : Nat), AV.ptr (4 : Nat) (nextR l n (8 : Int)).toNat (0 : Nat)),
     ((8 : Nat),
     AV.int IntKind.u32
     ([(1 : Int), (2 : Int), (1 : Int), (3 : Int), (0 : Int), (4294967295 : Int),
     (33 : Int), (1 : Int)].getD
     (nextR l n (8 : Int)).toNat (0 : Int))),
     ((9 : Nat), AV.ptr (1000 : Nat) (0 : Nat) (0 : Nat)),
     ((10 : Nat), AV.int IntKind.i64 (nextR l (nextN l n) (2 : Int))),
     ((11 : Nat), AV.bool (nextR l (nextN l n) (2 : Int) == (1 : Int))),
     ((12 : Nat),
     AV.agg
     [AV.int IntKind.u32
     ([(1 : Int), (2 : Int), (1 : Int), (3 : Int), (0 : Int), (4294967295 : Int),
     (33 : Int), (1 : Int)].getD
     (nextR l n (8 : Int)).toNat (0 : Int)),
     AV.bool (nextR l (nextN l n) (2 : Int) == (1 : Int)),
     AV.int IntKind.i64 (0 : Int), AV.int IntKind.i64 (0 : Int),
     AV.int IntKind.i64 (0 : Int), AV.nil])]
     [((2 : Nat),
     AV.box (38 : Nat)
     [AV.int IntKind.u32 (0 : Int), AV.bool false, AV.int IntKind.i64 (0 : Int),
     AV.int IntKind.i64 (0 : Int), AV.int IntKind.i64 (0 : Int), AV.nil]),
     ((3 : Nat),
     AV.box (38 : Nat)
     [AV.int IntKind.u32
     ([(1 : Int), (2 : Int), (1 : Int), (3 : Int), (0 : Int), (4294967295 : Int),
     (33 : Int), (1 : Int)].getD
     (nextR l n (8 : Int)).toNat (0 : Int)),
     AV.bool (nextR l (nextN l n) (2 : Int) == (1 : Int)),
     AV.int IntKind.i64 (0 : Int), AV.int IntKind.i64 (0 : Int),
     AV.int IntKind.i64 (0 : Int), AV.nil]),
     ((4 : Nat),
     AV.lini (27 : Nat) IntKind.u32
     [(1 : Int), (2 : Int), (1 : Int), (3 : Int), (0 : Int), (4294967295 : Int),
     (33 : Int), (1 : Int)]),
     ((1000 : Nat),
     AV.box (83 : Nat)
     [AV.ints false IntKind.i64 l, AV.int IntKind.i64 (nextN l (nextN l n))])]))) ∧
     ∀ (K : AS → Prop),
     chk (inB (nextR l n (8 : Int)) (8 : Nat))
     (chk (decide ((nextR l n (8 : Int)).toNat < (8 : Nat)))
     (K
     (AS.mk
     [((0 : Nat), AV.ptr (1000 : Nat) (0 : Nat) (0 : Nat)),
     ((2 : Nat), AV.ptr (2 : Nat) (0 : Nat) (0 : Nat)),
     ((3 : Nat), AV.ptr (3 : Nat) (0 : Nat) (0 : Nat)),
     ((4 : Nat), AV.ownf (4 : Nat)),
     ((5 : Nat), AV.ptr (1000 : Nat) (0 : Nat) (0 : Nat)),
     ((6 : Nat), AV.int IntKind.i64 (nextR l n (8 : Int))),
     ((7 : Nat), AV.ptr (4 : Nat) (nextR l n (8 : Int)).toNat (0 : Nat)),
     ((8 : Nat),
     AV.int IntKind.u32
     ([(1 : Int), (2 : Int), (1 : Int), (3 : Int), (0 : Int), (4294967295 : Int),
     (33 : Int), (1 : Int)].getD
     (nextR l n (8 : Int)).toNat (0 : Int))),
     ((9 : Nat), AV.ptr (1000 : Nat) (0 : Nat) (0 : Nat)),
     ((10 : Nat), AV.int IntKind.i64 (nextR l (nextN l n) (2 : Int))),
     ((11 : Nat), AV.bool (nextR l (nextN l n) (2 : Int) == (1 : Int))),
     ((12 : Nat),
     AV.agg
     [AV.int IntKind.u32
     ([(1 : Int), (2 : Int), (1 : Int), (3 : Int), (0 : Int),
     (4294967295 : Int), (33 : Int), (1 : Int)].getD
     (nextR l n (8 : Int)).toNat (0 : Int)),
     AV.bool (nextR l (nextN l n) (2 : Int) == (1 : Int)),
     AV.int IntKind.i64 (0 : Int), AV.int IntKind.i64 (0 : Int),
     AV.int IntKind.i64 (0 : Int), AV.nil])]
     [((2 : Nat),
     AV.box (38 : Nat)
     [AV.int IntKind.u32 (0 : Int), AV.bool false, AV.int IntKind.i64 (0 : Int),
     AV.int IntKind.i64 (0 : Int), AV.int IntKind.i64 (0 : Int), AV.nil]),
     ((3 : Nat),
     AV.box (38 : Nat)
     [AV.int IntKind.u32
     ([(1 : Int), (2 : Int), (1 : Int), (3 : Int), (0 : Int),
     (4294967295 : Int), (33 : Int), (1 : Int)].getD
     (nextR l n (8 : Int)).toNat (0 : Int)),
     AV.bool (nextR l (nextN l n) (2 : Int) == (1 : Int)),
     AV.int IntKind.i64 (0 : Int), AV.int IntKind.i64 (0 : Int),
     AV.int IntKind.i64 (0 : Int), AV.nil]),
     ((4 : Nat),
     AV.lini (27 : Nat) IntKind.u32
     [(1 : Int), (2 : Int), (1 : Int), (3 : Int), (0 : Int), (4294967295 : Int),
     (33 : Int), (1 : Int)]),
     ((1000 : Nat),
     AV.box (83 : Nat)
     [AV.ints false IntKind.i64 l,
     AV.int IntKind.i64 (nextN l (nextN l n))])]))) →
     chk (inB (nextR l n (8 : Int)) (8 : Nat))
     (chk (decide ((nextR l n (8 : Int)).toNat < (8 : Nat)))
     (K
     (AS.mk
     [((0 : Nat), AV.ptr (1000 : Nat) (0 : Nat) (0 : Nat)),
     ((2 : Nat), AV.ptr (2 : Nat) (0 : Nat) (0 : Nat)),
     ((3 : Nat), AV.ptr (3 : Nat) (0 : Nat) (0 : Nat)),
     ((4 : Nat), AV.ownf (4 : Nat)),
     ((5 : Nat), AV.ptr (1000 : Nat) (0 : Nat) (0 : Nat)),
     ((6 : Nat), AV.int IntKind.i64 (nextR l n (8 : Int))),
     ((7 : Nat), AV.ptr (4 : Nat) (nextR l n (8 : Int)).toNat (0 : Nat)),
     ((8 : Nat),
     AV.int IntKind.u32
     ([(1 : Int), (2 : Int), (1 : Int), (3 : Int), (0 : Int), (4294967295 : Int),
     (33 : Int), (1 : Int)].getD
     (nextR l n (8 : Int)).toNat (0 : Int))),
     ((9 : Nat), AV.ptr (1000 : Nat) (0 : Nat) (0 : Nat)),
     ((10 : Nat), AV.int IntKind.i64 (nextR l (nextN l n) (2 : Int))),
     ((11 : Nat), AV.bool (nextR l (nextN l n) (2 : Int) == (1 : Int))),
     ((12 : Nat),
     AV.agg
     [AV.int IntKind.u32
     ([(1 : Int), (2 : Int), (1 : Int), (3 : Int), (0 : Int),
     (4294967295 : Int), (33 : Int), (1 : Int)].getD
     (nextR l n (8 : Int)).toNat (0 : Int)),
     AV.bool (nextR l (nextN l n) (2 : Int) == (1 : Int)),
     AV.int IntKind.i64 (0 : Int), AV.int IntKind.i64 (0 : Int),
     AV.int IntKind.i64 (0 : Int), AV.nil])]
     [((2 : Nat),
     AV.box (38 : Nat)
     [AV.int IntKind.u32 (0 : Int), AV.bool false, AV.int IntKind.i64 (0 : Int),
     AV.int IntKind.i64 (0 : Int), AV.int IntKind.i64 (0 : Int), AV.nil]),
     ((3 : Nat),
     AV.box (38 : Nat)
     [AV.int IntKind.u32
     ([(1 : Int), (2 : Int), (1 : Int), (3 : Int), (0 : Int),
     (4294967295 : Int), (33 : Int), (1 : Int)].getD
     (nextR l n (8 : Int)).toNat (0 : Int)),
     AV.bool (nextR l (nextN l n) (2 : Int) == (1 : Int)),
     AV.int IntKind.i64 (0 : Int), AV.int IntKind.i64 (0 : Int),
     AV.int IntKind.i64 (0 : Int), AV.nil]),
     ((4 : Nat),
     AV.lini (27 : Nat) IntKind.u32
     [(1 : Int), (2 : Int), (1 : Int), (3 : Int), (0 : Int), (4294967295 : Int),
     (33 : Int), (1 : Int)]),
     ((1000 : Nat),
     AV.box (83 : Nat)
     [AV.ints false IntKind.i64 l,
     AV.int IntKind.i64 (nextN l (nextN l n))])])))) ∧
     ∀ (K : AS → Prop),
     chk
     (decide
     ((0 : Int) < (2 : Int) ∧
     (2 : Int) ≤ (1000000 : Int) ∧ (0 : Int) ≤ nextN l n ∧ nextN l n ≤ @Nat.cast Int _ l.length))
     (chk (inB (nextR l n (8 : Int)) (8 : Nat))
     (chk (decide ((nextR l n (8 : Int)).toNat < (8 : Nat)))
     (K
     (AS.mk
     [((0 : Nat), AV.ptr (1000 : Nat) (0 : Nat) (0 : Nat)),
     ((2 : Nat), AV.ptr (2 : Nat) (0 : Nat) (0 : Nat)),
     ((3 : Nat), AV.ptr (3 : Nat) (0 : Nat) (0 : Nat)),
     ((4 : Nat), AV.ownf (4 : Nat)),
     ((5 : Nat), AV.ptr (1000 : Nat) (0 : Nat) (0 : Nat)),
     ((6 : Nat), AV.int IntKind.i64 (nextR l n (8 : Int))),
     ((7 : Nat), AV.ptr (4 : Nat) (nextR l n (8 : Int)).toNat (0 : Nat)),
     ((8 : Nat),
     AV.int IntKind.u32
     ([(1 : Int), (2 : Int), (1 : Int), (3 : Int), (0 : Int), (4294967295 : Int),
     (33 : Int), (1 : Int)].getD
     (nextR l n (8 : Int)).toNat (0 : Int))),
     ((9 : Nat), AV.ptr (1000 : Nat) (0 : Nat) (0 : Nat)),
     ((10 : Nat), AV.int IntKind.i64 (nextR l (nextN l n) (2 : Int))),
     ((11 : Nat), AV.bool (nextR l (nextN l n) (2 : Int) == (1 : Int))),
     ((12 : Nat),
     AV.agg
     [AV.int IntKind.u32
     ([(1 : Int), (2 : Int), (1 : Int), (3 : Int), (0 : Int),
     (4294967295 : Int), (33 : Int), (1 : Int)].getD
     (nextR l n (8 : Int)).toNat (0 : Int)),
     AV.bool (nextR l (nextN l n) (2 : Int) == (1 : Int)),
     AV.int IntKind.i64 (0 : Int), AV.int IntKind.i64 (0 : Int),
     AV.int IntKind.i64 (0 : Int), AV.nil])]
     [((2 : Nat),
     AV.box (38 : Nat)
     [AV.int IntKind.u32 (0 : Int), AV.bool false, AV.int IntKind.i64 (0 : Int),
     AV.int IntKind.i64 (0 : Int), AV.int IntKind.i64 (0 : Int), AV.nil]),
     ((3 : Nat),
     AV.box (38 : Nat)
     [AV.int IntKind.u32
     ([(1 : Int), (2 : Int), (1 : Int), (3 : Int), (0 : Int),
     (4294967295 : Int), (33 : Int), (1 : Int)].getD
     (nextR l n (8 : Int)).toNat (0 : Int)),
     AV.bool (nextR l (nextN l n) (2 : Int) == (1 : Int)),
     AV.int IntKind.i64 (0 : Int), AV.int IntKind.i64 (0 : Int),
     AV.int IntKind.i64 (0 : Int), AV.nil]),
     ((4 : Nat),
     AV.lini (27 : Nat) IntKind.u32
     [(1 : Int), (2 : Int), (1 : Int), (3 : Int), (0 : Int), (4294967295 : Int),
     (33 : Int), (1 : Int)]),
     ((1000 : Nat),
     AV.box (83 : Nat)
     [AV.ints false IntKind.i64 l,
     AV.int IntKind.i64 (nextN l (nextN l n))])]))) ∧
     ∀ (K : AS → Prop),
     chk (inB (nextR l n (8 : Int)) (8 : Nat))
     (chk (decide ((nextR l n (8 : Int)).toNat < (8 : Nat)))
     (K
     (AS.mk
     [((0 : Nat), AV.ptr (1000 : Nat) (0 : Nat) (0 : Nat)),
     ((2 : Nat), AV.ptr (2 : Nat) (0 : Nat) (0 : Nat)),
     ((3 : Nat), AV.ptr (3 : Nat) (0 : Nat) (0 : Nat)),
     ((4 : Nat), AV.ownf (4 : Nat)),
     ((5 : Nat), AV.ptr (1000 : Nat) (0 : Nat) (0 : Nat)),
     ((6 : Nat), AV.int IntKind.i64 (nextR l n (8 : Int))),
     ((7 : Nat), AV.ptr (4 : Nat) (nextR l n (8 : Int)).toNat (0 : Nat)),
     ((8 : Nat),
     AV.int IntKind.u32
     ([(1 : Int), (2 : Int), (1 : Int), (3 : Int), (0 : Int),
     (4294967295 : Int), (33 : Int), (1 : Int)].getD
     (nextR l n (8 : Int)).toNat (0 : Int))),
     ((9 : Nat), AV.ptr (1000 : Nat) (0 : Nat) (0 : Nat)),
     ((10 : Nat), AV.int IntKind.i64 (nextR l (nextN l n) (2 : Int))),
     ((11 : Nat), AV.bool (nextR l (nextN l n) (2 : Int) == (1 : Int))),
     ((12 : Nat),
     AV.agg
     [AV.int IntKind.u32
     ([(1 : Int), (2 : Int), (1 : Int), (3 : Int), (0 : Int),
     (4294967295 : Int), (33 : Int), (1 : Int)].getD
     (nextR l n (8 : Int)).toNat (0 : Int)),
     AV.bool (nextR l (nextN l n) (2 : Int) == (1 : Int)),
     AV.int IntKind.i64 (0 : Int), AV.int IntKind.i64 (0 : Int),
     AV.int IntKind.i64 (0 : Int), AV.nil])]
     [((2 : Nat),
     AV.box (38 : Nat)
     [AV.int IntKind.u32 (0 : Int), AV.bool false,
     AV.int IntKind.i64 (0 : Int), AV.int IntKind.i64 (0 : Int),
     AV.int IntKind.i64 (0 : Int), AV.nil]),
     ((3 : Nat),
     AV.box (38 : Nat)
     [AV.int IntKind.u32
     ([(1 : Int), (2 : Int), (1 : Int), (3 : Int), (0 : Int),
     (4294967295 : Int), (33 : Int), (1 : Int)].getD
     (nextR l n (8 : Int)).toNat (0 : Int)),
     AV.bool (nextR l (nextN l n) (2 : Int) == (1 : Int)),
     AV.int IntKind.i64 (0 : Int), AV.int IntKind.i64 (0 : Int),
     AV.int IntKind.i64 (0 : Int), AV.nil]),
     ((4 : Nat),
     AV.lini (27 : Nat) IntKind.u32
     [(1 : Int), (2 : Int), (1 : Int), (3 : Int), (0 : Int),
     (4294967295 : Int), (33 : Int), (1 : Int)]),
     ((1000 : Nat),
     AV.box (83 : Nat)
     [AV.ints false IntKind.i64 l,
     AV.int IntKind.i64 (nextN l (nextN l n))])]))) →
     chk (inB (nextR l n (8 : Int)) (8 : Nat))
     (chk (decide ((nextR l n (8 : Int)).toNat < (8 : Nat)))
     (K
     (AS.mk
     [((0 : Nat), AV.ptr (1000 : Nat) (0 : Nat) (0 : Nat)),
     ((2 : Nat), AV.ptr (2 : Nat) (0 : Nat) (0 : Nat)),
     ((3 : Nat), AV.ptr (3 : Nat) (0 : Nat) (0 : Nat)),
     ((4 : Nat), AV.ownf (4 : Nat)),
     ((5 : Nat), AV.ptr (1000 : Nat) (0 : Nat) (0 : Nat)),
     ((6 : Nat), AV.int IntKind.i64 (nextR l n (8 : Int))),
     ((7 : Nat), AV.ptr (4 : Nat) (nextR l n (8 : Int)).toNat (0 : Nat)),
     ((8 : Nat),
     AV.int IntKind.u32
     ([(1 : Int), (2 : Int), (1 : Int), (3 : Int), (0 : Int),
     (4294967295 : Int), (33 : Int), (1 : Int)].getD
     (nextR l n (8 : Int)).toNat (0 : Int))),
     ((9 : Nat), AV.ptr (1000 : Nat) (0 : Nat) (0 : Nat)),
     ((10 : Nat), AV.int IntKind.i64 (nextR l (nextN l n) (2 : Int))),
     ((11 : Nat), AV.bool (nextR l (nextN l n) (2 : Int) == (1 : Int))),
     ((12 : Nat),
     AV.agg
     [AV.int IntKind.u32
     ([(1 : Int), (2 : Int), (1 : Int), (3 : Int), (0 : Int),
     (4294967295 : Int), (33 : Int), (1 : Int)].getD
     (nextR l n (8 : Int)).toNat (0 : Int)),
     AV.bool (nextR l (nextN l n) (2 : Int) == (1 : Int)),
     AV.int IntKind.i64 (0 : Int), AV.int IntKind.i64 (0 : Int),
     AV.int IntKind.i64 (0 : Int), AV.nil])]
     [((2 : Nat),
     AV.box (38 : Nat)
     [AV.int IntKind.u32 (0 : Int), AV.bool false,
     AV.int IntKind.i64 (0 : Int), AV.int IntKind.i64 (0 : Int),
     AV.int IntKind.i64 (0 : Int), AV.nil]),
     ((3 : Nat),
     AV.box (38 : Nat)
     [AV.int IntKind.u32
     ([(1 : Int), (2 : Int), (1 : Int), (3 : Int), (0 : Int),
     (4294967295 : Int), (33 : Int), (1 : Int)].getD
     (nextR l n (8 : Int)).toNat (0 : Int)),
     AV.bool (nextR l (nextN l n) (2 : Int) == (1 : Int)),
     AV.int IntKind.i64 (0 : Int), AV.int IntKind.i64 (0 : Int),
     AV.int IntKind.i64 (0 : Int), AV.nil]),
     ((4 : Nat),
     AV.lini (27 : Nat) IntKind.u32
     [(1 : Int), (2 : Int), (1 : Int), (3 : Int), (0 : Int),
     (4294967295 : Int), (33 : Int), (1 : Int)]),
     ((1000 : Nat),
     AV.box (83 : Nat)
     [AV.ints false IntKind.i64 l,
     AV.int IntKind.i64 (nextN l (nextN l n))])])))) →
     chk (inB (nextR l n (8 : Int)) (8 : Nat))
     (chk (decide ((nextR l n (8 : Int)).toNat < (8 : Nat)))
     (chk
     (decide
     ((0 : Int) < (2 : Int) ∧
     (2 : Int) ≤ (1000000 : Int) ∧
     (0 : Int) ≤ nextN l n ∧ nextN l n ≤ @Nat.cast Int _ l.length))
     (K
     (AS.mk
     [((0 : Nat), AV.ptr (1000 : Nat) (0 : Nat) (0 : Nat)),
     ((2 : Nat), AV.ptr (2 : Nat) (0 : Nat) (0 : Nat)),
     ((3 : Nat), AV.ptr (3 : Nat) (0 : Nat) (0 : Nat)),
     ((4 : Nat), AV.ownf (4 : Nat)),
     ((5 : Nat), AV.ptr (1000 : Nat) (0 : Nat) (0 : Nat)),
     ((6 : Nat), AV.int IntKind.i64 (nextR l n (8 : Int))),
     ((7 : Nat), AV.ptr (4 : Nat) (nextR l n (8 : Int)).toNat (0 : Nat)),
     ((8 : Nat),
     AV.int IntKind.u32
     ([(1 : Int), (2 : Int), (1 : Int), (3 : Int), (0 : Int), (4294967295 : Int),
     (33 : Int), (1 : Int)].getD
     (nextR l n (8 : Int)).toNat (0 : Int))),
     ((9 : Nat), AV.ptr (1000 : Nat) (0 : Nat) (0 : Nat)),
     ((10 : Nat), AV.int IntKind.i64 (nextR l (nextN l n) (2 : Int))),
     ((11 : Nat), AV.bool (nextR l (nextN l n) (2 : Int) == (1 : Int))),
     ((12 : Nat),
     AV.agg
     [AV.int IntKind.u32
     ([(1 : Int), (2 : Int), (1 : Int), (3 : Int), (0 : Int),
     (4294967295 : Int), (33 : Int), (1 : Int)].getD
     (nextR l n (8 : Int)).toNat (0 : Int)),
     AV.bool (nextR l (nextN l n) (2 : Int) == (1 : Int)),
     AV.int IntKind.i64 (0 : Int), AV.int IntKind.i64 (0 : Int),
     AV.int IntKind.i64 (0 : Int), AV.nil])]
     [((2 : Nat),
     AV.box (38 : Nat)
     [AV.int IntKind.u32 (0 : Int), AV.bool false, AV.int IntKind.i64 (0 : Int),
     AV.int IntKind.i64 (0 : Int), AV.int IntKind.i64 (0 : Int), AV.nil]),
     ((3 : Nat),
     AV.box (38 : Nat)
     [AV.int IntKind.u32
     ([(1 : Int), (2 : Int), (1 : Int), (3 : Int), (0 : Int),
     (4294967295 : Int), (33 : Int), (1 : Int)].getD
     (nextR l n (8 : Int)).toNat (0 : Int)),
     AV.bool (nextR l (nextN l n) (2 : Int) == (1 : Int)),
     AV.int IntKind.i64 (0 : Int), AV.int IntKind.i64 (0 : Int),
     AV.int IntKind.i64 (0 : Int), AV.nil]),
     ((4 : Nat),
     AV.lini (27 : Nat) IntKind.u32
     [(1 : Int), (2 : Int), (1 : Int), (3 : Int), (0 : Int), (4294967295 : Int),
     (33 : Int), (1 : Int)]),
     ((1000 : Nat),
     AV.box (83 : Nat)
     [AV.ints false IntKind.i64 l,
     AV.int IntKind.i64 (nextN l (nextN l n))])])))) ∧
     ∀ (K : AS → Prop),
     chk (inB (nextR l n (8 : Int)) (8 : Nat))
     (chk (decide ((nextR l n (8 : Int)).toNat < (8 : Nat)))
     (chk
     (decide
     ((0 : Int) < (2 : Int) ∧
     (2 : Int) ≤ (1000000 : Int) ∧
     (0 : Int) ≤ nextN l n ∧ nextN l n ≤ @Nat.cast Int _ l.length))
     (K
     (AS.mk
     [((0 : Nat), AV.ptr (1000 : Nat) (0 : Nat) (0 : Nat)),
     ((2 : Nat), AV.ptr (2 : Nat) (0 : Nat) (0 : Nat)),
     ((3 : Nat), AV.ptr (3 : Nat) (0 : Nat) (0 : Nat)),
     ((4 : Nat), AV.ownf (4 : Nat)),
     ((5 : Nat), AV.ptr (1000 : Nat) (0 : Nat) (0 : Nat)),
     ((6 : Nat), AV.int IntKind.i64 (nextR l n (8 : Int))),
     ((7 : Nat), AV.ptr (4 : Nat) (nextR l n (8 : Int)).toNat (0 : Nat)),
     ((8 : Nat),
     AV.int IntKind.u32
     ([(1 : Int), (2 : Int), (1 : Int), (3 : Int), (0 : Int),
     (4294967295 : Int), (33 : Int), (1 : Int)].getD
     (nextR l n (8 : Int)).toNat (0 : Int))),
     ((9 : Nat), AV.ptr (1000 : Nat) (0 : Nat) (0 : Nat)),
     ((10 : Nat), AV.int IntKind.i64 (nextR l (nextN l n) (2 : Int))),
     ((11 : Nat), AV.bool (nextR l (nextN l n) (2 : Int) == (1 : Int))),
     ((12 : Nat),
     AV.agg
     [AV.int IntKind.u32
     ([(1 : Int), (2 : Int), (1 : Int), (3 : Int), (0 : Int),
     (4294967295 : Int), (33 : Int), (1 : Int)].getD
     (nextR l n (8 : Int)).toNat (0 : Int)),
     AV.bool (nextR l (nextN l n) (2 : Int) == (1 : Int)),
     AV.int IntKind.i64 (0 : Int), AV.int IntKind.i64 (0 : Int),
     AV.int IntKind.i64 (0 : Int), AV.nil])]
     [((2 : Nat),
     AV.box (38 : Nat)
     [AV.int IntKind.u32 (0 : Int), AV.bool false,
     AV.int IntKind.i64 (0 : Int), AV.int IntKind.i64 (0 : Int),
     AV.int IntKind.i64 (0 : Int), AV.nil]),
     ((3 : Nat),
     AV.box (38 : Nat)
     [AV.int IntKind.u32
     ([(1 : Int), (2 : Int), (1 : Int), (3 : Int), (0 : Int),
     (4294967295 : Int), (33 : Int), (1 : Int)].getD
     (nextR l n (8 : Int)).toNat (0 : Int)),
     AV.bool (nextR l (nextN l n) (2 : Int) == (1 : Int)),
     AV.int IntKind.i64 (0 : Int), AV.int IntKind.i64 (0 : Int),
     AV.int IntKind.i64 (0 : Int), AV.nil]),
     ((4 : Nat),
     AV.lini (27 : Nat) IntKind.u32
     [(1 : Int), (2 : Int), (1 : Int), (3 : Int), (0 : Int),
     (4294967295 : Int), (33 : Int), (1 : Int)]),
     ((1000 : Nat),
     AV.box (83 : Nat)
     [AV.ints false IntKind.i64 l,
     AV.int IntKind.i64 (nextN l (nextN l n))])])))) →
     chk
     (decide
     ((0 : Int) < (2 : Int) ∧
     (2 : Int) ≤ (1000000 : Int) ∧
     (0 : Int) ≤ nextN l n ∧ nextN l n ≤ @Nat.cast Int _ l.length))
     (chk (inB (nextR l n (8 : Int)) (8 : Nat))
     (chk (decide ((nextR l n (8 : Int)).toNat < (8 : Nat)))
     (K
     (AS.mk
     [((0 : Nat), AV.ptr (1000 : Nat) (0 : Nat) (0 : Nat)),
     ((2 : Nat), AV.ptr (2 : Nat) (0 : Nat) (0 : Nat)),
     ((3 : Nat), AV.ptr (3 : Nat) (0 : Nat) (0 : Nat)),
     ((4 : Nat), AV.ownf (4 : Nat)),
     ((5 : Nat), AV.ptr (1000 : Nat) (0 : Nat) (0 : Nat)),
     ((6 : Nat), AV.int IntKind.i64 (nextR l n (8 : Int))),
     ((7 : Nat), AV.ptr (4 : Nat) (nextR l n (8 : Int)).toNat (0 : Nat)),
     ((8 : Nat),
     AV.int IntKind.u32
     ([(1 : Int), (2 : Int), (1 : Int), (3 : Int), (0 : Int),
     (4294967295 : Int), (33 : Int), (1 : Int)].getD
     (nextR l n (8 : Int)).toNat (0 : Int))),
     ((9 : Nat), AV.ptr (1000 : Nat) (0 : Nat) (0 : Nat)),
     ((10 : Nat), AV.int IntKind.i64 (nextR l (nextN l n) (2 : Int))),
     ((11 : Nat), AV.bool (nextR l (nextN l n) (2 : Int) == (1 : Int))),
     ((12 : Nat),
     AV.agg
     [AV.int IntKind.u32
     ([(1 : Int), (2 : Int), (1 : Int), (3 : Int), (0 : Int),
     (4294967295 : Int), (33 : Int), (1 : Int)].getD
     (nextR l n (8 : Int)).toNat (0 : Int)),
     AV.bool (nextR l (nextN l n) (2 : Int) == (1 : Int)),
     AV.int IntKind.i64 (0 : Int), AV.int IntKind.i64 (0 : Int),
     AV.int IntKind.i64 (0 : Int), AV.nil])]
     [((2 : Nat),
     AV.box (38 : Nat)
     [AV.int IntKind.u32 (0 : Int), AV.bool false,
     AV.int IntKind.i64 (0 : Int), AV.int IntKind.i64 (0 : Int),
     AV.int IntKind.i64 (0 : Int), AV.nil]),
     ((3 : Nat),
     AV.box (38 : Nat)
     [AV.int IntKind.u32
     ([(1 : Int), (2 : Int), (1 : Int), (3 : Int), (0 : Int),
     (4294967295 : Int), (33 : Int), (1 : Int)].getD
     (nextR l n (8 : Int)).toNat (0 : Int)),
     AV.bool (nextR l (nextN l n) (2 : Int) == (1 : Int)),
     AV.int IntKind.i64 (0 : Int), AV.int IntKind.i64 (0 : Int),
     AV.int IntKind.i64 (0 : Int), AV.nil]),
     ((4 : Nat),
     AV.lini (27 : Nat) IntKind.u32
     [(1 : Int), (2 : Int), (1 : Int), (3 : Int), (0 : Int),
     (4294967295 : Int), (33 : Int), (1 : Int)]),
     ((1000 : Nat),
     AV.box (83 : Nat)
     [AV.ints false IntKind.i64 l,
     AV.int IntKind.i64 (nextN l (nextN l n))])]))))) →
     chk (decide ((0 : Int) < (8 : Int) ∧ (8 : Int) ≤ (1000000 : Int) ∧ (0 : Int) ≤ n ∧ n ≤ @Nat.cast Int _ l.length))
     (chk (inB (nextR l n (8 : Int)) (8 : Nat))
     (chk (decide ((nextR l n (8 : Int)).toNat < (8 : Nat)))
     (chk
     (decide
     ((0 : Int) < (2 : Int) ∧
     (2 : Int) ≤ (1000000 : Int) ∧ (0 : Int) ≤ nextN l n ∧ nextN l n ≤ @Nat.cast Int _ l.length))
     (K
     (AS.mk
     [((0 : Nat), AV.ptr (1000 : Nat) (0 : Nat) (0 : Nat)),
     ((2 : Nat), AV.ptr (2 : Nat) (0 : Nat) (0 : Nat)),
     ((3 : Nat), AV.ptr (3 : Nat) (0 : Nat) (0 : Nat)), ((4 : Nat), AV.ownf (4 : Nat)),
     ((5 : Nat), AV.ptr (1000 : Nat) (0 : Nat) (0 : Nat)),
     ((6 : Nat), AV.int IntKind.i64 (nextR l n (8 : Int))),
     ((7 : Nat), AV.ptr (4 : Nat) (nextR l n (8 : Int)).toNat (0 : Nat)),
     ((8 : Nat),
     AV.int IntKind.u32
     ([(1 : Int), (2 : Int), (1 : Int), (3 : Int), (0 : Int), (4294967295 : Int), (33 : Int),
     (1 : Int)].getD
     (nextR l n (8 : Int)).toNat (0 : Int))),
     ((9 : Nat), AV.ptr (1000 : Nat) (0 : Nat) (0 : Nat)),
     ((10 : Nat), AV.int IntKind.i64 (nextR l (nextN l n) (2 : Int))),
     ((11 : Nat), AV.bool (nextR l (nextN l n) (2 : Int) == (1 : Int))),
     ((12 : Nat),
     AV.agg
     [AV.int IntKind.u32
     ([(1 : Int), (2 : Int), (1 : Int), (3 : Int), (0 : Int), (4294967295 : Int),
     (33 : Int), (1 : Int)].getD
     (nextR l n (8 : Int)).toNat (0 : Int)),
     AV.bool (nextR l (nextN l n) (2 : Int) == (1 : Int)), AV.int IntKind.i64 (0 : Int),
     AV.int IntKind.i64 (0 : Int), AV.int IntKind.i64 (0 : Int), AV.nil])]
     [((2 : Nat),
     AV.box (38 : Nat)
     [AV.int IntKind.u32 (0 : Int), AV.bool false, AV.int IntKind.i64 (0 : Int),
     AV.int IntKind.i64 (0 : Int), AV.int IntKind.i64 (0 : Int), AV.nil]),
     ((3 : Nat),
     AV.box (38 : Nat)
     [AV.int IntKind.u32
     ([(1 : Int), (2 : Int), (1 : Int), (3 : Int), (0 : Int), (4294967295 : Int),
     (33 : Int), (1 : Int)].getD
     (nextR l n (8 : Int)).toNat (0 : Int)),
     AV.bool (nextR l (nextN l n) (2 : Int) == (1 : Int)), AV.int IntKind.i64 (0 : Int),
     AV.int IntKind.i64 (0 : Int), AV.int IntKind.i64 (0 : Int), AV.nil]),
     ((4 : Nat),
     AV.lini (27 : Nat) IntKind.u32
     [(1 : Int), (2 : Int), (1 : Int), (3 : Int), (0 : Int), (4294967295 : Int), (33 : Int),
     (1 : Int)]),
     ((1000 : Nat),
     AV.box (83 : Nat)
     [AV.ints false IntKind.i64 l, AV.int IntKind.i64 (nextN l (nextN l n))])]))))) ∧
     ∀ (K : AS → Prop),
     chk
     (decide
     ((0 : Int) < (8 : Int) ∧ (8 : Int) ≤ (1000000 : Int) ∧ (0 : Int) ≤ n ∧ n ≤ @Nat.cast Int _ l.length))
     (chk (inB (nextR l n (8 : Int)) (8 : Nat))
     (chk (decide ((nextR l n (8 : Int)).toNat < (8 : Nat)))
     (chk
     (decide
     ((0 : Int) < (2 : Int) ∧
     (2 : Int) ≤ (1000000 : Int) ∧ (0 : Int) ≤ nextN l n ∧ nextN l n ≤ @Nat.cast Int _ l.length))
     (K
     (AS.mk
     [((0 : Nat), AV.ptr (1000 : Nat) (0 : Nat) (0 : Nat)),
     ((2 : Nat), AV.ptr (2 : Nat) (0 : Nat) (0 : Nat)),
     ((3 : Nat), AV.ptr (3 : Nat) (0 : Nat) (0 : Nat)), ((4 : Nat), AV.ownf (4 : Nat)),
     ((5 : Nat), AV.ptr (1000 : Nat) (0 : Nat) (0 : Nat)),
     ((6 : Nat), AV.int IntKind.i64 (nextR l n (8 : Int))),
     ((7 : Nat), AV.ptr (4 : Nat) (nextR l n (8 : Int)).toNat (0 : Nat)),
     ((8 : Nat),
     AV.int IntKind.u32
     ([(1 : Int), (2 : Int), (1 : Int), (3 : Int), (0 : Int), (4294967295 : Int),
     (33 : Int), (1 : Int)].getD
     (nextR l n (8 : Int)).toNat (0 : Int))),
     ((9 : Nat), AV.ptr (1000 : Nat) (0 : Nat) (0 : Nat)),
     ((10 : Nat), AV.int IntKind.i64 (nextR l (nextN l n) (2 : Int))),
     ((11 : Nat), AV.bool (nextR l (nextN l n) (2 : Int) == (1 : Int))),
     ((12 : Nat),
     AV.agg
     [AV.int IntKind.u32
     ([(1 : Int), (2 : Int), (1 : Int), (3 : Int), (0 : Int), (4294967295 : Int),
     (33 : Int), (1 : Int)].getD
     (nextR l n (8 : Int)).toNat (0 : Int)),
     AV.bool (nextR l (nextN l n) (2 : Int) == (1 : Int)),
     AV.int IntKind.i64 (0 : Int), AV.int IntKind.i64 (0 : Int),
     AV.int IntKind.i64 (0 : Int), AV.nil])]
     [((2 : Nat),
     AV.box (38 : Nat)
     [AV.int IntKind.u32 (0 : Int), AV.bool false, AV.int IntKind.i64 (0 : Int),
     AV.int IntKind.i64 (0 : Int), AV.int IntKind.i64 (0 : Int), AV.nil]),
     ((3 : Nat),
     AV.box (38 : Nat)
     [AV.int IntKind.u32
     ([(1 : Int), (2 : Int), (1 : Int), (3 : Int), (0 : Int), (4294967295 : Int),
     (33 : Int), (1 : Int)].getD
     (nextR l n (8 : Int)).toNat (0 : Int)),
     AV.bool (nextR l (nextN l n) (2 : Int) == (1 : Int)),
     AV.int IntKind.i64 (0 : Int), AV.int IntKind.i64 (0 : Int),
     AV.int IntKind.i64 (0 : Int), AV.nil]),
     ((4 : Nat),
     AV.lini (27 : Nat) IntKind.u32
     [(1 : Int), (2 : Int), (1 : Int), (3 : Int), (0 : Int), (4294967295 : Int),
     (33 : Int), (1 : Int)]),
     ((1000 : Nat),
     AV.box (83 : Nat)
     [AV.ints false IntKind.i64 l, AV.int IntKind.i64 (nextN l (nextN l n))])]))))) →
     chk
     (decide
     ((0 : Int) < (8 : Int) ∧ (8 : Int) ≤ (1000000 : Int) ∧ (0 : Int) ≤ n ∧ n ≤ @Nat.cast Int _ l.length))
     (chk (inB (nextR l n (8 : Int)) (8 : Nat))
     (chk (decide ((nextR l n (8 : Int)).toNat < (8 : Nat)))
     (chk
     (decide
     ((0 : Int) < (2 : Int) ∧
     (2 : Int) ≤ (1000000 : Int) ∧ (0 : Int) ≤ nextN l n ∧ nextN l n ≤ @Nat.cast Int _ l.length))
     (K
     (AS.mk
     [((0 : Nat), AV.ptr (1000 : Nat) (0 : Nat) (0 : Nat)),
     ((2 : Nat), AV.ptr (2 : Nat) (0 : Nat) (0 : Nat)),
     ((3 : Nat), AV.ptr (3 : Nat) (0 : Nat) (0 : Nat)), ((4 : Nat), AV.ownf (4 : Nat)),
     ((5 : Nat), AV.ptr (1000 : Nat) (0 : Nat) (0 : Nat)),
     ((6 : Nat), AV.int IntKind.i64 (nextR l n (8 : Int))),
     ((7 : Nat), AV.ptr (4 : Nat) (nextR l n (8 : Int)).toNat (0 : Nat)),
     ((8 : Nat),
     AV.int IntKind.u32
     ([(1 : Int), (2 : Int), (1 : Int), (3 : Int), (0 : Int), (4294967295 : Int),
     (33 : Int), (1 : Int)].getD
     (nextR l n (8 : Int)).toNat (0 : Int))),
     ((9 : Nat), AV.ptr (1000 : Nat) (0 : Nat) (0 : Nat)),
     ((10 : Nat), AV.int IntKind.i64 (nextR l (nextN l n) (2 : Int))),
     ((11 : Nat), AV.bool (nextR l (nextN l n) (2 : Int) == (1 : Int))),
     ((12 : Nat),
     AV.agg
     [AV.int IntKind.u32
     ([(1 : Int), (2 : Int), (1 : Int), (3 : Int), (0 : Int), (4294967295 : Int),
     (33 : Int), (1 : Int)].getD
     (nextR l n (8 : Int)).toNat (0 : Int)),
     AV.bool (nextR l (nextN l n) (2 : Int) == (1 : Int)),
     AV.int IntKind.i64 (0 : Int), AV.int IntKind.i64 (0 : Int),
     AV.int IntKind.i64 (0 : Int), AV.nil])]
     [((2 : Nat),
     AV.box (38 : Nat)
     [AV.int IntKind.u32 (0 : Int), AV.bool false, AV.int IntKind.i64 (0 : Int),
     AV.int IntKind.i64 (0 : Int), AV.int IntKind.i64 (0 : Int), AV.nil]),
     ((3 : Nat),
     AV.box (38 : Nat)
     [AV.int IntKind.u32
     ([(1 : Int), (2 : Int), (1 : Int), (3 : Int), (0 : Int), (4294967295 : Int),
     (33 : Int), (1 : Int)].getD
     (nextR l n (8 : Int)).toNat (0 : Int)),
     AV.bool (nextR l (nextN l n) (2 : Int) == (1 : Int)),
     AV.int IntKind.i64 (0 : Int), AV.int IntKind.i64 (0 : Int),
     AV.int IntKind.i64 (0 : Int), AV.nil]),
     ((4 : Nat),
     AV.lini (27 : Nat) IntKind.u32
     [(1 : Int), (2 : Int), (1 : Int), (3 : Int), (0 : Int), (4294967295 : Int),
     (33 : Int), (1 : Int)]),
     ((1000 : Nat),
     AV.box (83 : Nat)
     [AV.ints false IntKind.i64 l, AV.int IntKind.i64 (nextN l (nextN l n))])])))) ∧
     ∀ (K : AS → Prop),
     chk (inB (nextR l n (8 : Int)) (8 : Nat))
     (chk (decide ((nextR l n (8 : Int)).toNat < (8 : Nat)))
     (chk
     (decide
     ((0 : Int) < (2 : Int) ∧
     (2 : Int) ≤ (1000000 : Int) ∧
     (0 : Int) ≤ nextN l n ∧ nextN l n ≤ @Nat.cast Int _ l.length))
     (K
     (AS.mk
     [((0 : Nat), AV.ptr (1000 : Nat) (0 : Nat) (0 : Nat)),
     ((2 : Nat), AV.ptr (2 : Nat) (0 : Nat) (0 : Nat)),
     ((3 : Nat), AV.ptr (3 : Nat) (0 : Nat) (0 : Nat)), ((4 : Nat), AV.ownf (4 : Nat)),
     ((5 : Nat), AV.ptr (1000 : Nat) (0 : Nat) (0 : Nat)),
     ((6 : Nat), AV.int IntKind.i64 (nextR l n (8 : Int))),
     ((7 : Nat), AV.ptr (4 : Nat) (nextR l n (8 : Int)).toNat (0 : Nat)),
     ((8 : Nat),
     AV.int IntKind.u32
     ([(1 : Int), (2 : Int), (1 : Int), (3 : Int), (0 : Int), (4294967295 : Int),
     (33 : Int), (1 : Int)].getD
     (nextR l n (8 : Int)).toNat (0 : Int))),
     ((9 : Nat), AV.ptr (1000 : Nat) (0 : Nat) (0 : Nat)),
     ((10 : Nat), AV.int IntKind.i64 (nextR l (nextN l n) (2 : Int))),
     ((11 : Nat), AV.bool (nextR l (nextN l n) (2 : Int) == (1 : Int))),
     ((12 : Nat),
     AV.agg
     [AV.int IntKind.u32
     ([(1 : Int), (2 : Int), (1 : Int), (3 : Int), (0 : Int),
     (4294967295 : Int), (33 : Int), (1 : Int)].getD
     (nextR l n (8 : Int)).toNat (0 : Int)),
     AV.bool (nextR l (nextN l n) (2 : Int) == (1 : Int)),
     AV.int IntKind.i64 (0 : Int), AV.int IntKind.i64 (0 : Int),
     AV.int IntKind.i64 (0 : Int), AV.nil])]
     [((2 : Nat),
     AV.box (38 : Nat)
     [AV.int IntKind.u32 (0 : Int), AV.bool false, AV.int IntKind.i64 (0 : Int),
     AV.int IntKind.i64 (0 : Int), AV.int IntKind.i64 (0 : Int), AV.nil]),
     ((3 : Nat),
     AV.box (38 : Nat)
     [AV.int IntKind.u32
     ([(1 : Int), (2 : Int), (1 : Int), (3 : Int), (0 : Int),
     (4294967295 : Int), (33 : Int), (1 : Int)].getD
     (nextR l n (8 : Int)).toNat (0 : Int)),
     AV.bool (nextR l (nextN l n) (2 : Int) == (1 : Int)),
     AV.int IntKind.i64 (0 : Int), AV.int IntKind.i64 (0 : Int),
     AV.int IntKind.i64 (0 : Int), AV.nil]),
     ((4 : Nat),
     AV.lini (27 : Nat) IntKind.u32
     [(1 : Int), (2 : Int), (1 : Int), (3 : Int), (0 : Int), (4294967295 : Int),
     (33 : Int), (1 : Int)]),
     ((1000 : Nat),
     AV.box (83 : Nat)
     [AV.ints false IntKind.i64 l,
     AV.int IntKind.i64 (nextN l (nextN l n))])])))) →
     chk
     (decide
     ((0 : Int) < (2 : Int) ∧
     (2 : Int) ≤ (1000000 : Int) ∧ (0 : Int) ≤ nextN l n ∧ nextN l n ≤ @Nat.cast Int _ l.length))
     (chk (inB (nextR l n (8 : Int)) (8 : Nat))
     (chk (decide ((nextR l n (8 : Int)).toNat < (8 : Nat)))
     (K
     (AS.mk
     [((0 : Nat), AV.ptr (1000 : Nat) (0 : Nat) (0 : Nat)),
     ((2 : Nat), AV.ptr (2 : Nat) (0 : Nat) (0 : Nat)),
     ((3 : Nat), AV.ptr (3 : Nat) (0 : Nat) (0 : Nat)), ((4 : Nat), AV.ownf (4 : Nat)),
     ((5 : Nat), AV.ptr (1000 : Nat) (0 : Nat) (0 : Nat)),
     ((6 : Nat), AV.int IntKind.i64 (nextR l n (8 : Int))),
     ((7 : Nat), AV.ptr (4 : Nat) (nextR l n (8 : Int)).toNat (0 : Nat)),
     ((8 : Nat),
     AV.int IntKind.u32
     ([(1 : Int), (2 : Int), (1 : Int), (3 : Int), (0 : Int), (4294967295 : Int),
     (33 : Int), (1 : Int)].getD
     (nextR l n (8 : Int)).toNat (0 : Int))),
     ((9 : Nat), AV.ptr (1000 : Nat) (0 : Nat) (0 : Nat)),
     ((10 : Nat), AV.int IntKind.i64 (nextR l (nextN l n) (2 : Int))),
     ((11 : Nat), AV.bool (nextR l (nextN l n) (2 : Int) == (1 : Int))),
     ((12 : Nat),
     AV.agg
     [AV.int IntKind.u32
     ([(1 : Int), (2 : Int), (1 : Int), (3 : Int), (0 : Int),
     (4294967295 : Int), (33 : Int), (1 : Int)].getD
     (nextR l n (8 : Int)).toNat (0 : Int)),
     AV.bool (nextR l (nextN l n) (2 : Int) == (1 : Int)),
     AV.int IntKind.i64 (0 : Int), AV.int IntKind.i64 (0 : Int),
     AV.int IntKind.i64 (0 : Int), AV.nil])]
     [((2 : Nat),
     AV.box (38 : Nat)
     [AV.int IntKind.u32 (0 : Int), AV.bool false, AV.int IntKind.i64 (0 : Int),
     AV.int IntKind.i64 (0 : Int), AV.int IntKind.i64 (0 : Int), AV.nil]),
     ((3 : Nat),
     AV.box (38 : Nat)
     [AV.int IntKind.u32
     ([(1 : Int), (2 : Int), (1 : Int), (3 : Int), (0 : Int),
     (4294967295 : Int), (33 : Int), (1 : Int)].getD
     (nextR l n (8 : Int)).toNat (0 : Int)),
     AV.bool (nextR l (nextN l n) (2 : Int) == (1 : Int)),
     AV.int IntKind.i64 (0 : Int), AV.int IntKind.i64 (0 : Int),
     AV.int IntKind.i64 (0 : Int), AV.nil]),
     ((4 : Nat),
     AV.lini (27 : Nat) IntKind.u32
     [(1 : Int), (2 : Int), (1 : Int), (3 : Int), (0 : Int), (4294967295 : Int),
     (33 : Int), (1 : Int)]),
     ((1000 : Nat),
     AV.box (83 : Nat)
     [AV.ints false IntKind.i64 l, AV.int IntKind.i64 (nextN l (nextN l n))])])))))) := by kernel_rfl
theorem p35_0 (l : List Int) (n : Int) (post : AV → Option AV → Prop) (hin : InRL [.ptr 1000 0 0]) (hie : InRO (some (.box 83 [.ints false .i64 l, .int .i64 n]))) (h : chk (decide (0 ≤ n ∧ n ≤ l.length)) (∀ (r : Rec) (n' : Int), RngR 0 r → r.s.length ≤ 60 → 0 ≤ n' ∧ n' ≤ l.length → post (pkV r) (some (.box 83 [.ints false .i64 l, .int .i64 n'])))) : Ok (runF c35 pm35 Proofs.Try.f35 [.ptr 1000 0 0] (some (.box 83 [.ints false .i64 l, .int .i64 n])) (post)) := by
  refine ⟨?_⟩
  rw [t35_0]
  obtain ⟨h1, h2⟩ := chk_iff.1 h
  have a0 := of_decide_eq_true h1
  have a1 := nextN_rng a0
  have a2 := nextN_rng a1
  have a3 := nextN_rng a2
  have a4 := nextN_rng a3
  have a5 := nextN_rng a4
  have a6 := nextN_rng a5
  have e8 : ∀ n, inB (nextR l n 8) 8 = true := fun n => (nextR_in l n 8 8 (by omega) rfl).1
  have f8 : ∀ n, decide ((nextR l n 8).toNat < 8) = true := fun n => (nextR_in l n 8 8 (by omega) rfl).2
  have e10 : ∀ n, inB (nextR l n 10) 10 = true := fun n => (nextR_in l n 10 10 (by omega) rfl).1
  have f10 : ∀ n, decide ((nextR l n 10).toNat < 10) = true := fun n => (nextR_in l n 10 10 (by omega) rfl).2
  have e5 : ∀ n, inB (nextR l n 5) 5 = true := fun n => (nextR_in l n 5 5 (by omega) rfl).1
  have f5 : ∀ n, decide ((nextR l n 5).toNat < 5) = true := fun n => (nextR_in l n 5 5 (by omega) rfl).2
  have e7 : ∀ n, inB (nextR l n 7) 7 = true := fun n => (nextR_in l n 7 7 (by omega) rfl).1
  have f7 : ∀ n, decide ((nextR l n 7).toNat < 7) = true := fun n => (nextR_in l n 7 7 (by omega) rfl).2
  have c : ∀ x m : Int, 0 ≤ x ∧ x ≤ l.length → 0 < m ∧ m ≤ 1000000 → decide (0 < m ∧ m ≤ 1000000 ∧ 0 ≤ x ∧ x ≤ l.length) = true := fun x m hx hm => decide_eq_true ⟨hm.1, hm.2, hx.1, hx.2⟩
  simp only [e8, f8, e10, f10, e5, f5, e7, f7, c n 8 a0 (by decide), c (nextN l n) 2 a1 (by decide), c (nextN l (nextN l n)) 10 a2 (by decide), c (nextN l (nextN l (nextN l n))) 10 a3 (by decide), c (nextN l (nextN l (nextN l (nextN l n)))) 9 a4 (by decide), c (nextN l (nextN l (nextN l (nextN l (nextN l n))))) 5 a5 (by decide), c (nextN l (nextN l n)) 7 a2 (by decide), c (nextN l (nextN l (nextN l n))) 9 a3 (by decide), c (nextN l (nextN l (nextN l (nextN l n)))) 5 a4 (by decide), chk_true, imp_self, implies_true, and_true, and_self]
  refine br_of (fun hb => ?_) (fun hb => ?_)
  · intro s hr hl
    exact h2 ⟨_, _, _, 0, _, s⟩ _ ⟨getD_all (P := fun x => inK .u32 x = true) (by decide) (by decide) _, getD_all (P := fun x => inK .i64 x = true) (by decide) (by decide) _, getD_all (P := fun x => inK .i64 x = true) (by decide) (by decide) _, (show inK .i64 0 = true by decide), hr, by rw [hl]; exact Nat.le_trans (clamp60 (by decide) _) (by decide)⟩ (by rw [hl]; exact clamp60 (by decide) _) a6
  · intro s hr hl
    exact h2 ⟨_, 0, 0, _, _, s⟩ _ ⟨getD_all (P := fun x => inK .u32 x = true) (by decide) (by decide) _, (show inK .i64 0 = true by decide), (show inK .i64 0 = true by decide), getD_all (P := fun x => inK .i64 x = true) (by decide) (by decide) _, hr, by rw [hl]; exact Nat.le_trans (clamp60 (by decide) _) (by decide)⟩ (by rw [hl]; exact clamp60 (by decide) _) a5
theorem k35 : Keeps Proofs.Try.prog 35 S35 := by
  refine ⟨?_, Proofs.Try.f35, by kernel_rfl, by kernel_rfl, by kernel_rfl⟩
  intro args e post h
  unfold S35 at h
  split at h
  · refine Spec.inR fun hin hie => fun_ok' (c := c35) gam_ok (l := u35) a35 rfl mixed_ok (fn := Proofs.Try.f35) (show Proofs.Try.prog.funcs[35]? = some Proofs.Try.f35 by kernel_rfl) (by kernel_rfl) (ls := []) rfl (.inl rfl) trivial (pm := pm35) (by simp [c35]) (fun _ => ⟨_, rfl⟩) ?_
    exact p35_0 _ _ _ hin hie h
  · exact h.elim
end Go.Proofs.Ytokeanadhihlfaa.V
