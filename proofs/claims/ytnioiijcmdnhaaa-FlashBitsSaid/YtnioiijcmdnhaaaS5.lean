import Derived.Test.YtnioiijcmdnhaaaPlans
import Derived.Test.YtnioiijcmdnhaaaVNum
import Derived.Test.YtnioiijcmdnhaaaProg
import Derived.Test.YtnioiijcmdnhaaaS0
import Derived.KernelRfl
set_option linter.all false
set_option maxHeartbeats 1000000
namespace Go.Proofs.Ytnioiijcmdnhaaa.V
open Go
theorem shr32 {y : Int} (h0 : 0 ≤ y) (h1 : y < 4294967296) : shr .u64 y 32 = 0 := by
  show y.fdiv 4294967296 = 0
  rw [Int.fdiv_eq_ediv_of_nonneg _ (by omega)]
  omega
theorem mask32 {y : Int} (h0 : 0 ≤ y) (h1 : y < 4294967296) : iand .u64 y 4294967295 = y := by
  obtain ⟨m, rfl⟩ : ∃ m : Nat, y = m := ⟨y.toNat, by omega⟩
  show IntKind.u64.wrap (BitVec.ofInt 64 (m : Int) &&& BitVec.ofInt 64 ((4294967295 : Nat) : Int)).toNat = (m : Int)
  have e : (BitVec.ofInt 64 (m : Int) &&& BitVec.ofInt 64 ((4294967295 : Nat) : Int)).toNat = m := by
    rw [BitVec.toNat_and]
    have h2 : (BitVec.ofInt 64 (m : Int)).toNat = m := by simp [BitVec.toNat_ofInt]; omega
    have h3 : (BitVec.ofInt 64 ((4294967295 : Nat) : Int)).toNat = 2 ^ 32 - 1 := by decide
    rw [h2, h3, Nat.and_two_pow_sub_one_eq_mod]
    omega
  rw [e, wrap_u64 (by omega) (by omega)]
def pm37 : Pm := ⟨[.s, .s], .no, [.s, .s]⟩
def u37 : List (Nat × Tr) := []
theorem a37 : AllKeep Proofs.Try.prog u37 := trivial

def c37 : Cfg := { n := 51, Γ := Gam, C := ofL u37, pm := pmL [], plan := noP, L := lpL [], unroll := nmL [], keep := kpL [] }
def S37 : Tr
  | [.int .u64 x, .int .u64 y], none, post => chk (decide (x = 1 ∧ 0 ≤ y ∧ y < 4294967296)) (post (.tup [.int .u64 0, .int .u64 y]) none)
  | _, _, _ => False
theorem t37_0 (x y : Int) (post : AV → Option AV → Prop) : runF c37 pm37 Proofs.Try.f37 [.int .u64 x, .int .u64 y] none post = (post
     (AV.tup
     [AV.int IntKind.u64
     (IntKind.u64.wrap
     (IntKind.u64.wrap
     (IntKind.u64.wrap (shr IntKind.u64 x (32 : Int) * shr IntKind.u64 y (32 : Int)) +
     shr IntKind.u64
     (IntKind.u64.wrap
     (IntKind.u64.wrap (shr IntKind.u64 x (32 : Int) * iand IntKind.u64 y (4294967295 : Int)) +
     shr IntKind.u64
     (IntKind.u64.wrap
     (iand IntKind.u64 x (4294967295 : Int) * iand IntKind.u64 y (4294967295 : Int)))
     (32 : Int)))
     (32 : Int)) +
     shr IntKind.u64
     (IntKind.u64.wrap
     (iand IntKind.u64
     (IntKind.u64.wrap
     (IntKind.u64.wrap (shr IntKind.u64 x (32 : Int) * iand IntKind.u64 y (4294967295 : Int)) +
     shr IntKind.u64
     (IntKind.u64.wrap
     (iand IntKind.u64 x (4294967295 : Int) * iand IntKind.u64 y (4294967295 : Int)))
     (32 : Int)))
     (4294967295 : Int) +
     IntKind.u64.wrap (iand IntKind.u64 x (4294967295 : Int) * shr IntKind.u64 y (32 : Int))))
     (32 : Int))),
     AV.int IntKind.u64 (IntKind.u64.wrap (x * y))])
     none) := by kernel_rfl
theorem p37_0 (x y : Int) (post : AV → Option AV → Prop) (hin : InRL [.int .u64 x, .int .u64 y]) (hie : InRO none) (h : chk (decide (x = 1 ∧ 0 ≤ y ∧ y < 4294967296)) (post (.tup [.int .u64 0, .int .u64 y]) none)) : Ok (runF c37 pm37 Proofs.Try.f37 [.int .u64 x, .int .u64 y] none (post)) := by
  refine ⟨?_⟩
  rw [t37_0]
  obtain ⟨h1, h2⟩ := chk_iff.1 h
  obtain ⟨rfl, h3, h4⟩ := of_decide_eq_true h1
  have e1 : shr .u64 1 32 = 0 := shr32 (by omega) (by omega)
  have e2 : iand .u64 1 4294967295 = 1 := mask32 (by omega) (by omega)
  have e3 : shr .u64 y 32 = 0 := shr32 h3 h4
  have e4 : iand .u64 y 4294967295 = y := mask32 h3 h4
  have s0 : shr .u64 0 32 = 0 := shr32 (by omega) (by omega)
  have m0 : iand .u64 0 4294967295 = 0 := mask32 (by omega) (by omega)
  have w0 : IntKind.u64.wrap 0 = 0 := wrap_u64 (by omega) (by omega)
  have wy : IntKind.u64.wrap y = y := wrap_u64 (by omega) (by omega)
  simp only [e1, e2, e3, e4, s0, m0, w0, wy, Int.zero_mul, Int.mul_zero, Int.one_mul, Int.add_zero, Int.zero_add]
  exact h2
theorem k37 : Keeps Proofs.Try.prog 37 S37 := by
  refine ⟨?_, Proofs.Try.f37, by kernel_rfl, by kernel_rfl, by kernel_rfl⟩
  intro args e post h
  unfold S37 at h
  split at h
  · refine Spec.inR fun hin hie => fun_ok' (c := c37) gam_ok (l := u37) a37 rfl mixed_ok (fn := Proofs.Try.f37) (show Proofs.Try.prog.funcs[37]? = some Proofs.Try.f37 by kernel_rfl) (by kernel_rfl) (ls := []) rfl (.inl rfl) trivial (pm := pm37) (by simp [c37]) (by rintro ⟨t, l, h⟩; cases h) ?_
    exact p37_0 _ _ _ hin hie h
  · exact h.elim
end Go.Proofs.Ytnioiijcmdnhaaa.V
