import Derived.Test.YtnioiijcmdnhaaaPlans
import Derived.Test.YtnioiijcmdnhaaaVNum
import Derived.Test.YtnioiijcmdnhaaaProg
import Derived.Test.YtnioiijcmdnhaaaS0
import Derived.Test.YtnioiijcmdnhaaaS1
import Derived.Test.YtnioiijcmdnhaaaS2
import Derived.Test.YtnioiijcmdnhaaaS3
import Derived.Test.YtnioiijcmdnhaaaS4
import Derived.Test.YtnioiijcmdnhaaaR4
import Derived.Test.YtnioiijcmdnhaaaS6
import Derived.Test.YtnioiijcmdnhaaaS7
import Derived.KernelRfl
set_option linter.all false
set_option maxHeartbeats 1000000
namespace Go.Proofs.Ytnioiijcmdnhaaa.V
open Go
def pm3 : Pm := ⟨[.s, .s, .s, flS], .no, [.s]⟩
def u3 : List (Nat × Tr) := [(9, S9), (10, S10), (11, S11), (12, S12), (13, S13), (14, S14)]
theorem a3 : AllKeep Proofs.Try.prog u3 := ⟨k9, k10, k11, k12, k13, k14, trivial⟩

def c3 : Cfg := { n := 99, Γ := Gam, C := ofL u3, pm := pmL [(9, pm9), (10, pm10), (11, pm11), (12, pm12), (13, pm13), (14, pm14)], plan := plan3, L := lpL [], unroll := nmL [], keep := kpL [] }
def S3 : Tr
  | [.int .i64 a, .int .i64 b, .int .i64 c, .agg [.int .i64 z, .ints false .u8 L]], none, post => post (.bool true) none
  | _, _, _ => False
theorem t3_0 (a b c z : Int) (L : List Int) (post : AV → Option AV → Prop) : runF c3 pm3 Proofs.Try.f3 [.int .i64 a, .int .i64 b, .int .i64 c, .agg [.int .i64 z, .ints false .u8 L]] none post = (br (decide (@Nat.cast Int _ L.length > (5000 : Int))) (post (AV.bool true) none)
     (chk (inB ((iand IntKind.i64 c (7 : Int)).tmod (5 : Int)) (5 : Nat))
     (chk (decide (((iand IntKind.i64 c (7 : Int)).tmod (5 : Int)).toNat < (5 : Nat)))
     (br (decide (a < (512 : Int)))
     (br
     (newE
     ([(511 : Int), (512 : Int), (513 : Int), (700 : Int), (0 : Int)].getD
     ((iand IntKind.i64 c (7 : Int)).tmod (5 : Int)).toNat (0 : Int))
     (IntKind.i64.wrap (iand IntKind.i64 (shr IntKind.i64 c (3 : Int)) (15 : Int) - (2 : Int))) ==
     newE
     ([(511 : Int), (512 : Int), (513 : Int), (700 : Int), (0 : Int)].getD
     ((iand IntKind.i64 c (7 : Int)).tmod (5 : Int)).toNat (0 : Int))
     (IntKind.i64.wrap (iand IntKind.i64 (shr IntKind.i64 c (3 : Int)) (15 : Int) - (2 : Int))))
     ((newZ
     ([(511 : Int), (512 : Int), (513 : Int), (700 : Int), (0 : Int)].getD
     ((iand IntKind.i64 c (7 : Int)).tmod (5 : Int)).toNat (0 : Int))
     (IntKind.i64.wrap (iand IntKind.i64 (shr IntKind.i64 c (3 : Int)) (15 : Int) - (2 : Int))) =
     newZ
     ([(511 : Int), (512 : Int), (513 : Int), (700 : Int), (0 : Int)].getD
     ((iand IntKind.i64 c (7 : Int)).tmod (5 : Int)).toNat (0 : Int))
     (IntKind.i64.wrap (iand IntKind.i64 (shr IntKind.i64 c (3 : Int)) (15 : Int) - (2 : Int))) ∧
     List.replicate
     (newN
     ([(511 : Int), (512 : Int), (513 : Int), (700 : Int), (0 : Int)].getD
     ((iand IntKind.i64 c (7 : Int)).tmod (5 : Int)).toNat (0 : Int))
     (IntKind.i64.wrap (iand IntKind.i64 (shr IntKind.i64 c (3 : Int)) (15 : Int) - (2 : Int))))
     (255 : Int) =
     List.replicate
     (newN
     ([(511 : Int), (512 : Int), (513 : Int), (700 : Int), (0 : Int)].getD
     ((iand IntKind.i64 c (7 : Int)).tmod (5 : Int)).toNat (0 : Int))
     (IntKind.i64.wrap (iand IntKind.i64 (shr IntKind.i64 c (3 : Int)) (15 : Int) - (2 : Int))))
     (255 : Int)) ∧
     br (newE a b == (9 : Int))
     (br (@Nat.cast Int _ (List.replicate (newN a b) (255 : Int)).length == (0 : Int))
     (br (valE z L.length == valE z L.length) (post (AV.bool true) none) (post (AV.bool false) none))
     (post (AV.bool false) none))
     (post (AV.bool false) none))
     (post (AV.bool false) none))
     (br (decide (a > (8192 : Int)))
     (br
     (newE
     ([(511 : Int), (512 : Int), (513 : Int), (700 : Int), (0 : Int)].getD
     ((iand IntKind.i64 c (7 : Int)).tmod (5 : Int)).toNat (0 : Int))
     (IntKind.i64.wrap (iand IntKind.i64 (shr IntKind.i64 c (3 : Int)) (15 : Int) - (2 : Int))) ==
     newE
     ([(511 : Int), (512 : Int), (513 : Int), (700 : Int), (0 : Int)].getD
     ((iand IntKind.i64 c (7 : Int)).tmod (5 : Int)).toNat (0 : Int))
     (IntKind.i64.wrap (iand IntKind.i64 (shr IntKind.i64 c (3 : Int)) (15 : Int) - (2 : Int))))
     ((newZ
     ([(511 : Int), (512 : Int), (513 : Int), (700 : Int), (0 : Int)].getD
     ((iand IntKind.i64 c (7 : Int)).tmod (5 : Int)).toNat (0 : Int))
     (IntKind.i64.wrap (iand IntKind.i64 (shr IntKind.i64 c (3 : Int)) (15 : Int) - (2 : Int))) =
     newZ
     ([(511 : Int), (512 : Int), (513 : Int), (700 : Int), (0 : Int)].getD
     ((iand IntKind.i64 c (7 : Int)).tmod (5 : Int)).toNat (0 : Int))
     (IntKind.i64.wrap (iand IntKind.i64 (shr IntKind.i64 c (3 : Int)) (15 : Int) - (2 : Int))) ∧
     List.replicate
     (newN
     ([(511 : Int), (512 : Int), (513 : Int), (700 : Int), (0 : Int)].getD
     ((iand IntKind.i64 c (7 : Int)).tmod (5 : Int)).toNat (0 : Int))
     (IntKind.i64.wrap (iand IntKind.i64 (shr IntKind.i64 c (3 : Int)) (15 : Int) - (2 : Int))))
     (255 : Int) =
     List.replicate
     (newN
     ([(511 : Int), (512 : Int), (513 : Int), (700 : Int), (0 : Int)].getD
     ((iand IntKind.i64 c (7 : Int)).tmod (5 : Int)).toNat (0 : Int))
     (IntKind.i64.wrap (iand IntKind.i64 (shr IntKind.i64 c (3 : Int)) (15 : Int) - (2 : Int))))
     (255 : Int)) ∧
     br (newE a b == (9 : Int))
     (br (@Nat.cast Int _ (List.replicate (newN a b) (255 : Int)).length == (0 : Int))
     (br (valE z L.length == valE z L.length) (post (AV.bool true) none) (post (AV.bool false) none))
     (post (AV.bool false) none))
     (post (AV.bool false) none))
     (post (AV.bool false) none))
     (br (decide (b < (1 : Int)))
     (br
     (newE
     ([(511 : Int), (512 : Int), (513 : Int), (700 : Int), (0 : Int)].getD
     ((iand IntKind.i64 c (7 : Int)).tmod (5 : Int)).toNat (0 : Int))
     (IntKind.i64.wrap (iand IntKind.i64 (shr IntKind.i64 c (3 : Int)) (15 : Int) - (2 : Int))) ==
     newE
     ([(511 : Int), (512 : Int), (513 : Int), (700 : Int), (0 : Int)].getD
     ((iand IntKind.i64 c (7 : Int)).tmod (5 : Int)).toNat (0 : Int))
     (IntKind.i64.wrap (iand IntKind.i64 (shr IntKind.i64 c (3 : Int)) (15 : Int) - (2 : Int))))
     ((newZ
     ([(511 : Int), (512 : Int), (513 : Int), (700 : Int), (0 : Int)].getD
     ((iand IntKind.i64 c (7 : Int)).tmod (5 : Int)).toNat (0 : Int))
     (IntKind.i64.wrap (iand IntKind.i64 (shr IntKind.i64 c (3 : Int)) (15 : Int) - (2 : Int))) =
     newZ
     ([(511 : Int), (512 : Int), (513 : Int), (700 : Int), (0 : Int)].getD
     ((iand IntKind.i64 c (7 : Int)).tmod (5 : Int)).toNat (0 : Int))
     (IntKind.i64.wrap (iand IntKind.i64 (shr IntKind.i64 c (3 : Int)) (15 : Int) - (2 : Int))) ∧
     List.replicate
     (newN
     ([(511 : Int), (512 : Int), (513 : Int), (700 : Int), (0 : Int)].getD
     ((iand IntKind.i64 c (7 : Int)).tmod (5 : Int)).toNat (0 : Int))
     (IntKind.i64.wrap (iand IntKind.i64 (shr IntKind.i64 c (3 : Int)) (15 : Int) - (2 : Int))))
     (255 : Int) =
     List.replicate
     (newN
     ([(511 : Int), (512 : Int), (513 : Int), (700 : Int), (0 : Int)].getD
     ((iand IntKind.i64 c (7 : Int)).tmod (5 : Int)).toNat (0 : Int))
     (IntKind.i64.wrap (iand IntKind.i64 (shr IntKind.i64 c (3 : Int)) (15 : Int) - (2 : Int))))
     (255 : Int)) ∧
     br (newE a b == (9 : Int))
     (br (@Nat.cast Int _ (List.replicate (newN a b) (255 : Int)).length == (0 : Int))
     (br (valE z L.length == valE z L.length) (post (AV.bool true) none) (post (AV.bool false) none))
     (post (AV.bool false) none))
     (post (AV.bool false) none))
     (post (AV.bool false) none))
     (br (decide (b > (8 : Int)))
     (br
     (newE
     ([(511 : Int), (512 : Int), (513 : Int), (700 : Int), (0 : Int)].getD
     ((iand IntKind.i64 c (7 : Int)).tmod (5 : Int)).toNat (0 : Int))
     (IntKind.i64.wrap (iand IntKind.i64 (shr IntKind.i64 c (3 : Int)) (15 : Int) - (2 : Int))) ==
     newE
     ([(511 : Int), (512 : Int), (513 : Int), (700 : Int), (0 : Int)].getD
     ((iand IntKind.i64 c (7 : Int)).tmod (5 : Int)).toNat (0 : Int))
     (IntKind.i64.wrap (iand IntKind.i64 (shr IntKind.i64 c (3 : Int)) (15 : Int) - (2 : Int))))
     ((newZ
     ([(511 : Int), (512 : Int), (513 : Int), (700 : Int), (0 : Int)].getD
     ((iand IntKind.i64 c (7 : Int)).tmod (5 : Int)).toNat (0 : Int))
     (IntKind.i64.wrap (iand IntKind.i64 (shr IntKind.i64 c (3 : Int)) (15 : Int) - (2 : Int))) =
     newZ
     ([(511 : Int), (512 : Int), (513 : Int), (700 : Int), (0 : Int)].getD
     ((iand IntKind.i64 c (7 : Int)).tmod (5 : Int)).toNat (0 : Int))
     (IntKind.i64.wrap (iand IntKind.i64 (shr IntKind.i64 c (3 : Int)) (15 : Int) - (2 : Int))) ∧
     List.replicate
     (newN
     ([(511 : Int), (512 : Int), (513 : Int), (700 : Int), (0 : Int)].getD
     ((iand IntKind.i64 c (7 : Int)).tmod (5 : Int)).toNat (0 : Int))
     (IntKind.i64.wrap (iand IntKind.i64 (shr IntKind.i64 c (3 : Int)) (15 : Int) - (2 : Int))))
     (255 : Int) =
     List.replicate
     (newN
     ([(511 : Int), (512 : Int), (513 : Int), (700 : Int), (0 : Int)].getD
     ((iand IntKind.i64 c (7 : Int)).tmod (5 : Int)).toNat (0 : Int))
     (IntKind.i64.wrap (iand IntKind.i64 (shr IntKind.i64 c (3 : Int)) (15 : Int) - (2 : Int))))
     (255 : Int)) ∧
     br (newE a b == (9 : Int))
     (br (@Nat.cast Int _ (List.replicate (newN a b) (255 : Int)).length == (0 : Int))
     (br (valE z L.length == valE z L.length) (post (AV.bool true) none) (post (AV.bool false) none))
     (post (AV.bool false) none))
     (post (AV.bool false) none))
     (post (AV.bool false) none))
     (br
     (newE
     ([(511 : Int), (512 : Int), (513 : Int), (700 : Int), (0 : Int)].getD
     ((iand IntKind.i64 c (7 : Int)).tmod (5 : Int)).toNat (0 : Int))
     (IntKind.i64.wrap (iand IntKind.i64 (shr IntKind.i64 c (3 : Int)) (15 : Int) - (2 : Int))) ==
     newE
     ([(511 : Int), (512 : Int), (513 : Int), (700 : Int), (0 : Int)].getD
     ((iand IntKind.i64 c (7 : Int)).tmod (5 : Int)).toNat (0 : Int))
     (IntKind.i64.wrap (iand IntKind.i64 (shr IntKind.i64 c (3 : Int)) (15 : Int) - (2 : Int))))
     ((newZ
     ([(511 : Int), (512 : Int), (513 : Int), (700 : Int), (0 : Int)].getD
     ((iand IntKind.i64 c (7 : Int)).tmod (5 : Int)).toNat (0 : Int))
     (IntKind.i64.wrap (iand IntKind.i64 (shr IntKind.i64 c (3 : Int)) (15 : Int) - (2 : Int))) =
     newZ
     ([(511 : Int), (512 : Int), (513 : Int), (700 : Int), (0 : Int)].getD
     ((iand IntKind.i64 c (7 : Int)).tmod (5 : Int)).toNat (0 : Int))
     (IntKind.i64.wrap (iand IntKind.i64 (shr IntKind.i64 c (3 : Int)) (15 : Int) - (2 : Int))) ∧
     List.replicate
     (newN
     ([(511 : Int), (512 : Int), (513 : Int), (700 : Int), (0 : Int)].getD
     ((iand IntKind.i64 c (7 : Int)).tmod (5 : Int)).toNat (0 : Int))
     (IntKind.i64.wrap (iand IntKind.i64 (shr IntKind.i64 c (3 : Int)) (15 : Int) - (2 : Int))))
     (255 : Int) =
     List.replicate
     (newN
     ([(511 : Int), (512 : Int), (513 : Int), (700 : Int), (0 : Int)].getD
     ((iand IntKind.i64 c (7 : Int)).tmod (5 : Int)).toNat (0 : Int))
     (IntKind.i64.wrap (iand IntKind.i64 (shr IntKind.i64 c (3 : Int)) (15 : Int) - (2 : Int))))
     (255 : Int)) ∧
     br (newE a b == (0 : Int))
     (br (valE z L.length == valE z L.length) (post (AV.bool true) none) (post (AV.bool false) none))
     (post (AV.bool false) none))
     (post (AV.bool false) none))))))))) := by kernel_rfl
theorem p3_0 (a b c z : Int) (L : List Int) (post : AV → Option AV → Prop) (hin : InRL [.int .i64 a, .int .i64 b, .int .i64 c, .agg [.int .i64 z, .ints false .u8 L]]) (hie : InRO none) (h : post (.bool true) none) : Ok (runF c3 pm3 Proofs.Try.f3 [.int .i64 a, .int .i64 b, .int .i64 c, .agg [.int .i64 z, .ints false .u8 L]] none (post)) := by
  refine ⟨?_⟩
  rw [t3_0]
  have i1 : 0 ≤ iand .i64 c 7 ∧ iand .i64 c 7 ≤ 7 := iand_rng c 7 (by omega)
  have i2 := tmod_rng (a := iand .i64 c 7) (m := 5) i1.1 (by omega)
  have e0 : (((0 : Nat) : Int) == (0 : Int)) = true := rfl
  refine br_dec (fun _ => h) (fun _ => chk_inB i2.1 i2.2 (chk_dec (by omega) ?_))
  simp only [beq_self_eq_true, br_true, and_self, true_and, List.length_replicate]
  by_cases hc : a < 512 ∨ 8192 < a ∨ b < 1 ∨ 8 < b
  · have hE : newE a b = 9 := if_pos hc
    have hN : newN a b = 0 := by rw [newN, if_pos (by rw [hE]; decide)]
    simp only [hE, hN, e0, beq_self_eq_true, br_true]
    refine br_dec (fun _ => h) (fun _ => br_dec (fun _ => h) (fun _ => br_dec (fun _ => h) (fun _ => br_dec (fun _ => h) (fun _ => ?_))))
    exfalso
    omega
  · have hE : newE a b = 0 := if_neg hc
    simp only [hE, beq_self_eq_true, br_true]
    refine br_dec (fun _ => by exfalso; omega) (fun _ => br_dec (fun _ => by exfalso; omega) (fun _ => br_dec (fun _ => by exfalso; omega) (fun _ => br_dec (fun _ => by exfalso; omega) (fun _ => h))))
theorem k3 : Keeps Proofs.Try.prog 3 S3 := by
  refine ⟨?_, Proofs.Try.f3, by kernel_rfl, by kernel_rfl, by kernel_rfl⟩
  intro args e post h
  unfold S3 at h
  split at h
  · refine Spec.inR fun hin hie => fun_ok' (c := c3) gam_ok (l := u3) a3 rfl mixed_ok (fn := Proofs.Try.f3) (show Proofs.Try.prog.funcs[3]? = some Proofs.Try.f3 by kernel_rfl) (by kernel_rfl) (ls := []) rfl (.inl rfl) trivial (pm := pm3) (by simp [c3]) (by rintro ⟨t, l, h⟩; cases h) ?_
    exact p3_0 _ _ _ _ _ _ hin hie h
  · exact h.elim
end Go.Proofs.Ytnioiijcmdnhaaa.V
