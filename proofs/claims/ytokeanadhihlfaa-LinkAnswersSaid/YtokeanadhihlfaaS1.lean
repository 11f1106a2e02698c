import Derived.Test.YtokeanadhihlfaaPlans
import Derived.Test.YtokeanadhihlfaaMB
import Derived.Test.YtokeanadhihlfaaProg
import Derived.Test.YtokeanadhihlfaaS0
import Derived.Test.YtokeanadhihlfaaP1
import Derived.KernelRfl
set_option linter.all false
set_option maxHeartbeats 1000000
namespace Go.Proofs.Ytokeanadhihlfaa.V
open Go
def pm54 : Pm := ⟨[.s], .no, [.s]⟩
def u54 : List (Nat × Tr) := []
theorem a54 : AllKeep Proofs.Try.prog u54 := trivial

def c54 : Cfg := { n := 4, Γ := Gam, C := ofL u54, pm := pmL [], plan := noP, L := lpL [], unroll := nmL [], keep := kpL [] }
def S54 : Tr
  | [.bool ff], none, post => post (.int .i64 (capI ff)) none
  | _, _, _ => False
theorem t54_0  (post : AV → Option AV → Prop) : runF c54 pm54 Proofs.Try.f54 [.bool true] none post = (post (AV.int IntKind.i64 (57 : Int)) none) := by kernel_rfl
theorem t54_1  (post : AV → Option AV → Prop) : runF c54 pm54 Proofs.Try.f54 [.bool false] none post = (post (AV.int IntKind.i64 (59 : Int)) none) := by kernel_rfl
theorem p54_0  (post : AV → Option AV → Prop) (hin : InRL [.bool true]) (hie : InRO none) (h : post (.int .i64 (capI true)) none) : Ok (runF c54 pm54 Proofs.Try.f54 [.bool true] none (post)) := by
  refine ⟨?_⟩
  rw [t54_0]
  exact h
theorem p54_1  (post : AV → Option AV → Prop) (hin : InRL [.bool false]) (hie : InRO none) (h : post (.int .i64 (capI false)) none) : Ok (runF c54 pm54 Proofs.Try.f54 [.bool false] none (post)) := by
  refine ⟨?_⟩
  rw [t54_1]
  exact h
theorem P54_0  (ff : Bool) (post : AV → Option AV → Prop) (hin : InRL [.bool ff]) (hie : InRO none) (h : post (.int .i64 (capI ff)) none) : Ok (runF c54 pm54 Proofs.Try.f54 [.bool ff] none (post)) := by
  match ff, hin, hie, h with
  | true, hin, hie, h => exact p54_0  post hin hie h
  | false, hin, hie, h => exact p54_1  post hin hie h
theorem k54 : Keeps Proofs.Try.prog 54 S54 := by
  refine ⟨?_, Proofs.Try.f54, by kernel_rfl, by kernel_rfl, by kernel_rfl⟩
  intro args e post h
  unfold S54 at h
  split at h
  · refine Spec.inR fun hin hie => fun_ok' (c := c54) gam_ok (l := u54) a54 rfl mixed_ok (fn := Proofs.Try.f54) (show Proofs.Try.prog.funcs[54]? = some Proofs.Try.f54 by kernel_rfl) (by kernel_rfl) (ls := []) rfl (.inl rfl) trivial (pm := pm54) (by simp [c54]) (by rintro ⟨t, l, h⟩; cases h) ?_
    exact P54_0  _ _ hin hie h
  · exact h.elim
def pm17 : Pm := ⟨[.s, .s], .no, [.s]⟩
def u17 : List (Nat × Tr) := []
theorem a17 : AllKeep Proofs.Try.prog u17 := trivial

def c17 : Cfg := { n := 11, Γ := Gam, C := ofL u17, pm := pmL [], plan := noP, L := lpL [], unroll := nmL [], keep := kpL [] }
def S17 : Tr
  | [.int .i64 a, .int .i64 b], none, post => chk (decide (0 < b ∧ b ≤ 1099511627776)) (post (.int .i64 (IntKind.u64.wrap a % b)) none)
  | _, _, _ => False
theorem t17_0 (a b : Int) (post : AV → Option AV → Prop) : runF c17 pm17 Proofs.Try.f17 [.int .i64 a, .int .i64 b] none post = (chk (!IntKind.u64.wrap b == (0 : Int))
     (post (AV.int IntKind.i64 (IntKind.i64.wrap ((IntKind.u64.wrap a).tmod (IntKind.u64.wrap b)))) none)) := by kernel_rfl
theorem p17_0 (a b : Int) (post : AV → Option AV → Prop) (hin : InRL [.int .i64 a, .int .i64 b]) (hie : InRO none) (h : chk (decide (0 < b ∧ b ≤ 1099511627776)) (post (.int .i64 (IntKind.u64.wrap a % b)) none)) : Ok (runF c17 pm17 Proofs.Try.f17 [.int .i64 a, .int .i64 b] none (post)) := by
  refine ⟨?_⟩
  rw [t17_0]
  obtain ⟨h1, h2⟩ := chk_iff.1 h
  obtain ⟨h3, h4⟩ := of_decide_eq_true h1
  rw [wrap_u64 (n := b) (by omega) (by omega)]
  refine chk_nz (by omega) ?_
  have hu : 0 ≤ IntKind.u64.wrap a := by rw [wrap_u64_eq]; omega
  rw [Int.tmod_eq_emod_of_nonneg hu]
  have h5 := Int.emod_nonneg (IntKind.u64.wrap a) (show b ≠ 0 by omega)
  have h6 := Int.emod_lt_of_pos (IntKind.u64.wrap a) h3
  rw [wrap_i64 (by omega) (by omega)]
  exact h2
theorem k17 : Keeps Proofs.Try.prog 17 S17 := by
  refine ⟨?_, Proofs.Try.f17, by kernel_rfl, by kernel_rfl, by kernel_rfl⟩
  intro args e post h
  unfold S17 at h
  split at h
  · refine Spec.inR fun hin hie => fun_ok' (c := c17) gam_ok (l := u17) a17 rfl mixed_ok (fn := Proofs.Try.f17) (show Proofs.Try.prog.funcs[17]? = some Proofs.Try.f17 by kernel_rfl) (by kernel_rfl) (ls := []) rfl (.inl rfl) trivial (pm := pm17) (by simp [c17]) (by rintro ⟨t, l, h⟩; cases h) ?_
    exact p17_0 _ _ _ hin hie h
  · exact h.elim
def pm19 : Pm := ⟨[.s], .no, [.s]⟩
def u19 : List (Nat × Tr) := []
theorem a19 : AllKeep Proofs.Try.prog u19 := trivial

def c19 : Cfg := { n := 19, Γ := Gam, C := ofL u19, pm := pmL [], plan := noP, L := lpL [], unroll := nmL [], keep := kpL [] }
def S19 : Tr
  | [.int .i64 a], none, post => post (.int .i64 (countI a)) none
  | _, _, _ => False
theorem t19_0 (a : Int) (post : AV → Option AV → Prop) : runF c19 pm19 Proofs.Try.f19 [.int .i64 a] none post = (br (decide (a < (0 : Int))) (post (AV.int IntKind.i64 (-1 : Int)) none)
     (br (decide (a > (4096 : Int))) (post (AV.int IntKind.i64 (-1 : Int)) none)
     (br (decide (a ≤ (57 : Int))) (post (AV.int IntKind.i64 (1 : Int)) none)
     (post
     (AV.int IntKind.i64
     (IntKind.i64.wrap
     ((1 : Int) +
     IntKind.i64.wrap
     ((IntKind.i64.wrap (IntKind.i64.wrap (IntKind.i64.wrap (a - (57 : Int)) + (59 : Int)) - (1 : Int))).tdiv
     (59 : Int)))))
     none)))) := by kernel_rfl
theorem p19_0 (a : Int) (post : AV → Option AV → Prop) (hin : InRL [.int .i64 a]) (hie : InRO none) (h : post (.int .i64 (countI a)) none) : Ok (runF c19 pm19 Proofs.Try.f19 [.int .i64 a] none (post)) := by
  refine ⟨?_⟩
  rw [t19_0]
  repeat' first | with_reducible refine br_dec (fun hc => ?_) (fun hc => ?_) | with_reducible refine br_ne (fun hc => ?_) (fun hc => ?_) | with_reducible refine br_eq (fun hc => ?_) (fun hc => ?_)
  · exact post_of h (by rw [countI, if_pos (by omega)]) rfl
  · exact post_of h (by rw [countI, if_pos (by omega)]) rfl
  · exact post_of h (by rw [countI, if_neg (by omega), if_pos (by omega)]) rfl
  · refine post_of h ?_ rfl
    rw [wrap_i64 (n := a - 57) (by omega) (by omega), wrap_i64 (n := a - 57 + 59) (by omega) (by omega), wrap_i64 (n := a - 57 + 59 - 1) (by omega) (by omega), Int.tdiv_eq_ediv_of_nonneg (by omega), wrap_i64 (n := (a - 57 + 59 - 1) / 59) (by omega) (by omega), wrap_i64 (by omega) (by omega)]
    rw [countI, if_neg (by omega), if_neg (by omega)]
theorem k19 : Keeps Proofs.Try.prog 19 S19 := by
  refine ⟨?_, Proofs.Try.f19, by kernel_rfl, by kernel_rfl, by kernel_rfl⟩
  intro args e post h
  unfold S19 at h
  split at h
  · refine Spec.inR fun hin hie => fun_ok' (c := c19) gam_ok (l := u19) a19 rfl mixed_ok (fn := Proofs.Try.f19) (show Proofs.Try.prog.funcs[19]? = some Proofs.Try.f19 by kernel_rfl) (by kernel_rfl) (ls := []) rfl (.inl rfl) trivial (pm := pm19) (by simp [c19]) (by rintro ⟨t, l, h⟩; cases h) ?_
    exact p19_0 _ _ hin hie h
  · exact h.elim
def pm53 : Pm := ⟨[.i .u8], .no, [.li 5 .u8]⟩
def u53 : List (Nat × Tr) := []
theorem a53 : AllKeep Proofs.Try.prog u53 := trivial

def c53 : Cfg := { n := 6, Γ := Gam, C := ofL u53, pm := pmL [], plan := noP, L := lpL [], unroll := nmL [], keep := kpL [] }
def S53 : Tr
  | [.ints false .u8 l], none, post => chk (decide ((0 : Nat) + l.length ≤ (1099511627776 : Nat)))
     (post (AV.ownf (1000 : Nat)) (some (AV.lini (5 : Nat) IntKind.u8 ([] ++ l))))
  | _, _, _ => False
theorem t53_0 (l : List Int) (post : AV → Option AV → Prop) : runF c53 pm53 Proofs.Try.f53 [.ints false .u8 l] none post = (chk (decide ((0 : Nat) + l.length ≤ (1099511627776 : Nat)))
     (post (AV.ownf (1000 : Nat)) (some (AV.lini (5 : Nat) IntKind.u8 ([] ++ l))))) := by kernel_rfl
theorem k53 : Keeps Proofs.Try.prog 53 S53 := by
  refine ⟨?_, Proofs.Try.f53, by kernel_rfl, by kernel_rfl, by kernel_rfl⟩
  intro args e post h
  unfold S53 at h
  split at h
  · refine Spec.inR fun hin hie => fun_ok' (c := c53) gam_ok (l := u53) a53 rfl mixed_ok (fn := Proofs.Try.f53) (show Proofs.Try.prog.funcs[53]? = some Proofs.Try.f53 by kernel_rfl) (by kernel_rfl) (ls := []) rfl (.inl rfl) trivial (pm := pm53) (by simp [c53]) (by rintro ⟨t, l, h⟩; cases h) ?_
    refine ⟨?_⟩
    rw [t53_0]
    exact h
  · exact h.elim
def pm18 : Pm := ⟨[.s], .no, [.s]⟩
def u18 : List (Nat × Tr) := [(17, S17)]
theorem a18 : AllKeep Proofs.Try.prog u18 := ⟨k17, trivial⟩

def c18 : Cfg := { n := 12, Γ := Gam, C := ofL u18, pm := pmL [(17, pm17)], plan := noP, L := lpL [], unroll := nmL [], keep := kpL [] }
def S18 : Tr
  | [.int .i64 a], none, post => ∀ r : Int, 0 ≤ r ∧ r ≤ 4097 → post (.int .i64 r) none
  | _, _, _ => False
theorem t18_0 (a : Int) (post : AV → Option AV → Prop) : runF c18 pm18 Proofs.Try.f18 [.int .i64 a] none post = (chk (inB (IntKind.u64.wrap a % (16 : Int)) (16 : Nat))
     (chk (decide ((IntKind.u64.wrap a % (16 : Int)).toNat < (16 : Nat)))
     (post
     (AV.int IntKind.i64
     ([(0 : Int), (1 : Int), (8 : Int), (56 : Int), (57 : Int), (58 : Int), (115 : Int), (116 : Int), (117 : Int),
     (175 : Int), (176 : Int), (300 : Int), (4095 : Int), (4096 : Int), (4097 : Int), (60 : Int)].getD
     (IntKind.u64.wrap a % (16 : Int)).toNat (0 : Int)))
     none))) := by kernel_rfl
theorem p18_0 (a : Int) (post : AV → Option AV → Prop) (hin : InRL [.int .i64 a]) (hie : InRO none) (h : ∀ r : Int, 0 ≤ r ∧ r ≤ 4097 → post (.int .i64 r) none) : Ok (runF c18 pm18 Proofs.Try.f18 [.int .i64 a] none (post)) := by
  refine ⟨?_⟩
  rw [t18_0]
  have h5 := Int.emod_nonneg (IntKind.u64.wrap a) (show (16 : Int) ≠ 0 by omega)
  have h6 := Int.emod_lt_of_pos (IntKind.u64.wrap a) (show (0 : Int) < 16 by omega)
  generalize IntKind.u64.wrap a % 16 = r at *
  refine chk_inB (by omega) (by omega) (chk_dec (by omega) (h _ ?_))
  obtain ⟨n, rfl⟩ : ∃ n : Nat, r = n := ⟨r.toNat, by omega⟩
  have hn : n < 16 := by omega
  rw [Int.toNat_natCast]
  clear h5 h6
  revert n
  decide
theorem k18 : Keeps Proofs.Try.prog 18 S18 := by
  refine ⟨?_, Proofs.Try.f18, by kernel_rfl, by kernel_rfl, by kernel_rfl⟩
  intro args e post h
  unfold S18 at h
  split at h
  · refine Spec.inR fun hin hie => fun_ok' (c := c18) gam_ok (l := u18) a18 rfl mixed_ok (fn := Proofs.Try.f18) (show Proofs.Try.prog.funcs[18]? = some Proofs.Try.f18 by kernel_rfl) (by kernel_rfl) (ls := []) rfl (.inl rfl) trivial (pm := pm18) (by simp [c18]) (by rintro ⟨t, l, h⟩; cases h) ?_
    exact p18_0 _ _ hin hie h
  · exact h.elim
end Go.Proofs.Ytokeanadhihlfaa.V
