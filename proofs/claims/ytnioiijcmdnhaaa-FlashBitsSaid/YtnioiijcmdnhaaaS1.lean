import Derived.Test.YtnioiijcmdnhaaaPlans
import Derived.Test.YtnioiijcmdnhaaaVNum
import Derived.Test.YtnioiijcmdnhaaaProg
import Derived.Test.YtnioiijcmdnhaaaS0
import Derived.KernelRfl
set_option linter.all false
set_option maxHeartbeats 1000000
namespace Go.Proofs.Ytnioiijcmdnhaaa.V
open Go
def pm22 : Pm := ⟨[.s], .no, [.s]⟩
def u22 : List (Nat × Tr) := []
theorem a22 : AllKeep Proofs.Try.prog u22 := trivial

def c22 : Cfg := { n := 9, Γ := Gam, C := ofL u22, pm := pmL [], plan := noP, L := lpL [], unroll := nmL [], keep := kpL [] }
def S22 : Tr
  | [.int .i64 z], none, post => post (.bool (decide (512 ≤ z ∧ z ≤ 8192))) none
  | _, _, _ => False
theorem t22_0 (z : Int) (post : AV → Option AV → Prop) : runF c22 pm22 Proofs.Try.f22 [.int .i64 z] none post = (br (decide (z ≥ (512 : Int))) (post (AV.bool (decide (z ≤ (8192 : Int)))) none) (post (AV.bool false) none)) := by kernel_rfl
theorem p22_0 (z : Int) (post : AV → Option AV → Prop) (hin : InRL [.int .i64 z]) (hie : InRO none) (h : post (.bool (decide (512 ≤ z ∧ z ≤ 8192))) none) : Ok (runF c22 pm22 Proofs.Try.f22 [.int .i64 z] none (post)) := by
  refine ⟨?_⟩
  rw [t22_0]
  refine br_dec (fun h1 => post_of h ?_ rfl) (fun h1 => post_of h ?_ rfl)
  · rw [show decide (512 ≤ z ∧ z ≤ 8192) = decide (z ≤ 8192) from decide_eq_decide.2 ⟨fun h => h.2, fun h => ⟨by omega, h⟩⟩]
  · rw [show decide (512 ≤ z ∧ z ≤ 8192) = false from decide_eq_false (by omega)]
theorem k22 : Keeps Proofs.Try.prog 22 S22 := by
  refine ⟨?_, Proofs.Try.f22, by kernel_rfl, by kernel_rfl, by kernel_rfl⟩
  intro args e post h
  unfold S22 at h
  split at h
  · refine Spec.inR fun hin hie => fun_ok' (c := c22) gam_ok (l := u22) a22 rfl mixed_ok (fn := Proofs.Try.f22) (show Proofs.Try.prog.funcs[22]? = some Proofs.Try.f22 by kernel_rfl) (by kernel_rfl) (ls := []) rfl (.inl rfl) trivial (pm := pm22) (by simp [c22]) (by rintro ⟨t, l, h⟩; cases h) ?_
    exact p22_0 _ _ hin hie h
  · exact h.elim
def pm24 : Pm := ⟨[flS, .s], .no, [.s]⟩
def u24 : List (Nat × Tr) := []
theorem a24 : AllKeep Proofs.Try.prog u24 := trivial

def c24 : Cfg := { n := 17, Γ := Gam, C := ofL u24, pm := pmL [], plan := noP, L := lpL [], unroll := nmL [], keep := kpL [] }
def S24 : Tr
  | [.agg [.int .i64 z, .ints false .u8 L], .int .i64 page], none, post => chk (decide (valE z L.length = 0)) (post (.bool (decide (0 ≤ page ∧ page < (L.length : Int) / z))) none)
  | _, _, _ => False
theorem t24_0 (z : Int) (L : List Int) (page : Int) (post : AV → Option AV → Prop) : runF c24 pm24 Proofs.Try.f24 [.agg [.int .i64 z, .ints false .u8 L], .int .i64 page] none post = (br (decide (page ≥ (0 : Int)))
     (chk (!z == (0 : Int)) (post (AV.bool (decide (page < IntKind.i64.wrap ((@Nat.cast Int _ L.length).tdiv z)))) none))
     (post (AV.bool false) none)) := by kernel_rfl
theorem p24_0 (z : Int) (L : List Int) (page : Int) (post : AV → Option AV → Prop) (hin : InRL [.agg [.int .i64 z, .ints false .u8 L], .int .i64 page]) (hie : InRO none) (h : chk (decide (valE z L.length = 0)) (post (.bool (decide (0 ≤ page ∧ page < (L.length : Int) / z))) none)) : Ok (runF c24 pm24 Proofs.Try.f24 [.agg [.int .i64 z, .ints false .u8 L], .int .i64 page] none (post)) := by
  refine ⟨?_⟩
  rw [t24_0]
  obtain ⟨h1, h2⟩ := chk_iff.1 h
  have hv := of_decide_eq_true h1
  obtain ⟨v1, v2, v3, v4, v5⟩ := val_ok hv
  obtain ⟨w1, w2, w3⟩ := val_len hv
  have hd : IntKind.i64.wrap ((L.length : Int).tdiv z) = (L.length : Int) / z := by rw [Int.tdiv_eq_ediv_of_nonneg (by omega), wrap_i64 (by omega) (by omega)]
  refine br_dec (fun g1 => chk_nz (by omega) (post_of h2 ?_ rfl)) (fun g1 => post_of h2 ?_ rfl)
  · rw [hd, show decide (0 ≤ page ∧ page < (L.length : Int) / z) = decide (page < (L.length : Int) / z) from decide_eq_decide.2 ⟨fun h => h.2, fun h => ⟨by omega, h⟩⟩]
  · rw [show decide (0 ≤ page ∧ page < (L.length : Int) / z) = false from decide_eq_false (by omega)]
theorem k24 : Keeps Proofs.Try.prog 24 S24 := by
  refine ⟨?_, Proofs.Try.f24, by kernel_rfl, by kernel_rfl, by kernel_rfl⟩
  intro args e post h
  unfold S24 at h
  split at h
  · refine Spec.inR fun hin hie => fun_ok' (c := c24) gam_ok (l := u24) a24 rfl mixed_ok (fn := Proofs.Try.f24) (show Proofs.Try.prog.funcs[24]? = some Proofs.Try.f24 by kernel_rfl) (by kernel_rfl) (ls := []) rfl (.inl rfl) trivial (pm := pm24) (by simp [c24]) (by rintro ⟨t, l, h⟩; cases h) ?_
    exact p24_0 _ _ _ _ hin hie h
  · exact h.elim
def pm13 : Pm := ⟨[flS], .no, [.s]⟩
def u13 : List (Nat × Tr) := [(22, S22)]
theorem a13 : AllKeep Proofs.Try.prog u13 := ⟨k22, trivial⟩

def c13 : Cfg := { n := 27, Γ := Gam, C := ofL u13, pm := pmL [(22, pm22)], plan := noP, L := lpL [], unroll := nmL [], keep := kpL [] }
def S13 : Tr
  | [.agg [.int .i64 z, .ints false .u8 L]], none, post => post (.int .i64 (valE z L.length)) none
  | _, _, _ => False
theorem t13_0 (z : Int) (L : List Int) (post : AV → Option AV → Prop) : runF c13 pm13 Proofs.Try.f13 [.agg [.int .i64 z, .ints false .u8 L]] none post = (br (!decide ((512 : Int) ≤ z ∧ z ≤ (8192 : Int))) (post (AV.int IntKind.i64 (9 : Int)) none)
     (br (@Nat.cast Int _ L.length == (0 : Int)) (post (AV.int IntKind.i64 (4 : Int)) none)
     (chk (!z == (0 : Int))
     (br ((@Nat.cast Int _ L.length).tmod z != (0 : Int)) (post (AV.int IntKind.i64 (4 : Int)) none)
     (chk (!z == (0 : Int))
     (br (decide (IntKind.i64.wrap ((@Nat.cast Int _ L.length).tdiv z) > (8 : Int)))
     (post (AV.int IntKind.i64 (4 : Int)) none) (post (AV.int IntKind.i64 (0 : Int)) none))))))) := by kernel_rfl
theorem p13_0 (z : Int) (L : List Int) (post : AV → Option AV → Prop) (hin : InRL [.agg [.int .i64 z, .ints false .u8 L]]) (hie : InRO none) (h : post (.int .i64 (valE z L.length)) none) : Ok (runF c13 pm13 Proofs.Try.f13 [.agg [.int .i64 z, .ints false .u8 L]] none (post)) := by
  refine ⟨?_⟩
  rw [t13_0]
  have hlen : (L.length : Int) ≤ 9223372036854775807 := by
    have hin' := hin
    simp only [InRL, InR] at hin'
    have := hin'.1.2.1.2
    have hm : maxLen = 9223372036854775807 := rfl
    omega
  by_cases hz : 512 ≤ z ∧ z ≤ 8192
  · have hd : IntKind.i64.wrap ((L.length : Int).tdiv z) = (L.length : Int) / z := by
      have e1 := Int.ediv_nonneg (a := (L.length : Int)) (b := z) (by omega) (by omega)
      have e2 : (L.length : Int) / z ≤ L.length := Int.ediv_le_self _ (by omega)
      rw [Int.tdiv_eq_ediv_of_nonneg (by omega), wrap_i64 (by omega) (by omega)]
    rw [hd, Int.tmod_eq_emod_of_nonneg (by omega)]
    unfold valE at h
    rw [if_neg (by omega)] at h
    repeat' first
      | with_reducible refine br_dec (fun _ => ?_) (fun _ => ?_)
      | with_reducible refine br_ne (fun _ => ?_) (fun _ => ?_)
      | with_reducible refine br_eq (fun _ => ?_) (fun _ => ?_)
      | with_reducible refine br_not (br_dec (fun _ => ?_) (fun _ => ?_))
      | with_reducible refine chk_nz (by omega) ?_
      | with_reducible refine chk_dec (by omega) ?_
    all_goals first | (exfalso; omega) | skip
    all_goals (first | rw [if_pos (by omega)] at h | rw [if_neg (by omega)] at h)
    all_goals exact h
  · unfold valE at h
    rw [if_pos (by omega)] at h
    repeat' first
      | with_reducible refine br_dec (fun _ => ?_) (fun _ => ?_)
      | with_reducible refine br_ne (fun _ => ?_) (fun _ => ?_)
      | with_reducible refine br_eq (fun _ => ?_) (fun _ => ?_)
      | with_reducible refine br_not (br_dec (fun _ => ?_) (fun _ => ?_))
      | with_reducible refine chk_nz (by omega) ?_
      | with_reducible refine chk_dec (by omega) ?_
    all_goals first | (exfalso; omega) | exact h
theorem k13 : Keeps Proofs.Try.prog 13 S13 := by
  refine ⟨?_, Proofs.Try.f13, by kernel_rfl, by kernel_rfl, by kernel_rfl⟩
  intro args e post h
  unfold S13 at h
  split at h
  · refine Spec.inR fun hin hie => fun_ok' (c := c13) gam_ok (l := u13) a13 rfl mixed_ok (fn := Proofs.Try.f13) (show Proofs.Try.prog.funcs[13]? = some Proofs.Try.f13 by kernel_rfl) (by kernel_rfl) (ls := []) rfl (.inl rfl) trivial (pm := pm13) (by simp [c13]) (by rintro ⟨t, l, h⟩; cases h) ?_
    exact p13_0 _ _ _ hin hie h
  · exact h.elim
def pm14 : Pm := ⟨[flS], .no, [.s]⟩
def u14 : List (Nat × Tr) := []
theorem a14 : AllKeep Proofs.Try.prog u14 := trivial

def c14 : Cfg := { n := 33, Γ := Gam, C := ofL u14, pm := pmL [], plan := noP, L := lpL [], unroll := nmL [], keep := kpL [] }
def S14 : Tr
  | [.agg [.int .i64 z, .ints false .u8 L]], none, post => post (.int .i64 (valE z L.length)) none
  | _, _, _ => False
theorem t14_0 (z : Int) (L : List Int) (post : AV → Option AV → Prop) : runF c14 pm14 Proofs.Try.f14 [.agg [.int .i64 z, .ints false .u8 L]] none post = (br (decide (z < (512 : Int))) (post (AV.int IntKind.i64 (9 : Int)) none)
     (br (decide (z > (8192 : Int))) (post (AV.int IntKind.i64 (9 : Int)) none)
     (br (@Nat.cast Int _ L.length == (0 : Int)) (post (AV.int IntKind.i64 (4 : Int)) none)
     (chk (!z == (0 : Int))
     (br ((@Nat.cast Int _ L.length).tmod z != (0 : Int)) (post (AV.int IntKind.i64 (4 : Int)) none)
     (chk (!z == (0 : Int))
     (br (decide (IntKind.i64.wrap ((@Nat.cast Int _ L.length).tdiv z) > (8 : Int)))
     (post (AV.int IntKind.i64 (4 : Int)) none) (post (AV.int IntKind.i64 (0 : Int)) none)))))))) := by kernel_rfl
theorem p14_0 (z : Int) (L : List Int) (post : AV → Option AV → Prop) (hin : InRL [.agg [.int .i64 z, .ints false .u8 L]]) (hie : InRO none) (h : post (.int .i64 (valE z L.length)) none) : Ok (runF c14 pm14 Proofs.Try.f14 [.agg [.int .i64 z, .ints false .u8 L]] none (post)) := by
  refine ⟨?_⟩
  rw [t14_0]
  have hlen : (L.length : Int) ≤ 9223372036854775807 := by
    have hin' := hin
    simp only [InRL, InR] at hin'
    have := hin'.1.2.1.2
    have hm : maxLen = 9223372036854775807 := rfl
    omega
  by_cases hz : 512 ≤ z ∧ z ≤ 8192
  · have hd : IntKind.i64.wrap ((L.length : Int).tdiv z) = (L.length : Int) / z := by
      have e1 := Int.ediv_nonneg (a := (L.length : Int)) (b := z) (by omega) (by omega)
      have e2 : (L.length : Int) / z ≤ L.length := Int.ediv_le_self _ (by omega)
      rw [Int.tdiv_eq_ediv_of_nonneg (by omega), wrap_i64 (by omega) (by omega)]
    rw [hd, Int.tmod_eq_emod_of_nonneg (by omega)]
    unfold valE at h
    rw [if_neg (by omega)] at h
    repeat' first
      | with_reducible refine br_dec (fun _ => ?_) (fun _ => ?_)
      | with_reducible refine br_ne (fun _ => ?_) (fun _ => ?_)
      | with_reducible refine br_eq (fun _ => ?_) (fun _ => ?_)
      | with_reducible refine br_not (br_dec (fun _ => ?_) (fun _ => ?_))
      | with_reducible refine chk_nz (by omega) ?_
      | with_reducible refine chk_dec (by omega) ?_
    all_goals first | (exfalso; omega) | skip
    all_goals (first | rw [if_pos (by omega)] at h | rw [if_neg (by omega)] at h)
    all_goals exact h
  · unfold valE at h
    rw [if_pos (by omega)] at h
    repeat' first
      | with_reducible refine br_dec (fun _ => ?_) (fun _ => ?_)
      | with_reducible refine br_ne (fun _ => ?_) (fun _ => ?_)
      | with_reducible refine br_eq (fun _ => ?_) (fun _ => ?_)
      | with_reducible refine br_not (br_dec (fun _ => ?_) (fun _ => ?_))
      | with_reducible refine chk_nz (by omega) ?_
      | with_reducible refine chk_dec (by omega) ?_
    all_goals first | (exfalso; omega) | exact h
theorem k14 : Keeps Proofs.Try.prog 14 S14 := by
  refine ⟨?_, Proofs.Try.f14, by kernel_rfl, by kernel_rfl, by kernel_rfl⟩
  intro args e post h
  unfold S14 at h
  split at h
  · refine Spec.inR fun hin hie => fun_ok' (c := c14) gam_ok (l := u14) a14 rfl mixed_ok (fn := Proofs.Try.f14) (show Proofs.Try.prog.funcs[14]? = some Proofs.Try.f14 by kernel_rfl) (by kernel_rfl) (ls := []) rfl (.inl rfl) trivial (pm := pm14) (by simp [c14]) (by rintro ⟨t, l, h⟩; cases h) ?_
    exact p14_0 _ _ _ hin hie h
  · exact h.elim
def pm26 : Pm := ⟨[flS, .s, .s, .s], .no, [.s]⟩
def u26 : List (Nat × Tr) := [(14, S14)]
theorem a26 : AllKeep Proofs.Try.prog u26 := ⟨k14, trivial⟩

def c26 : Cfg := { n := 49, Γ := Gam, C := ofL u26, pm := pmL [(14, pm14)], plan := noP, L := lpL [], unroll := nmL [], keep := kpL [] }
def S26 : Tr
  | [.agg [.int .i64 z, .ints false .u8 L], .int .i64 page, .int .i64 at', .int .i64 n], none, post => post (.int .i64 (areaE z L.length page at' n)) none
  | _, _, _ => False
theorem t26_0 (z : Int) (L : List Int) (page at' n : Int) (post : AV → Option AV → Prop) : runF c26 pm26 Proofs.Try.f26 [.agg [.int .i64 z, .ints false .u8 L], .int .i64 page, .int .i64 at', .int .i64 n] none post = (br (valE z L.length != (0 : Int)) (post (AV.int IntKind.i64 (valE z L.length)) none)
     (br (decide (page < (0 : Int))) (post (AV.int IntKind.i64 (9 : Int)) none)
     (chk (!z == (0 : Int))
     (br (decide (page ≥ IntKind.i64.wrap ((@Nat.cast Int _ L.length).tdiv z))) (post (AV.int IntKind.i64 (9 : Int)) none)
     (br (decide (at' < (0 : Int))) (post (AV.int IntKind.i64 (9 : Int)) none)
     (br (decide (n < (0 : Int))) (post (AV.int IntKind.i64 (9 : Int)) none)
     (br (decide (at' > z)) (post (AV.int IntKind.i64 (9 : Int)) none)
     (br (decide (n > IntKind.i64.wrap (z - at'))) (post (AV.int IntKind.i64 (9 : Int)) none)
     (post (AV.int IntKind.i64 (0 : Int)) none))))))))) := by kernel_rfl
theorem p26_0 (z : Int) (L : List Int) (page at' n : Int) (post : AV → Option AV → Prop) (hin : InRL [.agg [.int .i64 z, .ints false .u8 L], .int .i64 page, .int .i64 at', .int .i64 n]) (hie : InRO none) (h : post (.int .i64 (areaE z L.length page at' n)) none) : Ok (runF c26 pm26 Proofs.Try.f26 [.agg [.int .i64 z, .ints false .u8 L], .int .i64 page, .int .i64 at', .int .i64 n] none (post)) := by
  refine ⟨?_⟩
  rw [t26_0]
  have hlen : (L.length : Int) ≤ 9223372036854775807 := by
    have hin' := hin
    simp only [InRL, InR] at hin'
    have := hin'.1.2.1.2
    have hm : maxLen = 9223372036854775807 := rfl
    omega
  unfold areaE at h
  refine br_ne (fun h1 => ?_) (fun h1 => ?_)
  · rw [if_pos h1] at h
    exact h
  · obtain ⟨v1, v2, v3, v4, v5⟩ := val_ok h1
    obtain ⟨w1, w2, w3⟩ := val_len h1
    have hd : IntKind.i64.wrap ((L.length : Int).tdiv z) = (L.length : Int) / z := by rw [Int.tdiv_eq_ediv_of_nonneg (by omega), wrap_i64 (by omega) (by omega)]
    rw [if_neg (fun hh => hh h1)] at h
    rw [hd]
    refine br_dec (fun g1 => ?_) (fun g1 => chk_nz (by omega) (br_dec (fun g2 => ?_) (fun g2 => br_dec (fun g3 => ?_) (fun g3 => br_dec (fun g4 => ?_) (fun g4 => br_dec (fun g5 => ?_) (fun g5 => ?_))))))
    rotate_right
    · rw [wrap_i64 (n := z - at') (by omega) (by omega)]
      refine br_dec (fun g6 => ?_) (fun g6 => ?_)
      · rw [if_pos (by omega)] at h
        exact h
      · rw [if_neg (by omega)] at h
        exact h
    all_goals (rw [if_pos (by omega)] at h; exact h)
theorem k26 : Keeps Proofs.Try.prog 26 S26 := by
  refine ⟨?_, Proofs.Try.f26, by kernel_rfl, by kernel_rfl, by kernel_rfl⟩
  intro args e post h
  unfold S26 at h
  split at h
  · refine Spec.inR fun hin hie => fun_ok' (c := c26) gam_ok (l := u26) a26 rfl mixed_ok (fn := Proofs.Try.f26) (show Proofs.Try.prog.funcs[26]? = some Proofs.Try.f26 by kernel_rfl) (by kernel_rfl) (ls := []) rfl (.inl rfl) trivial (pm := pm26) (by simp [c26]) (by rintro ⟨t, l, h⟩; cases h) ?_
    exact p26_0 _ _ _ _ _ _ hin hie h
  · exact h.elim
def pm12 : Pm := ⟨[flS, flS], .no, [.s]⟩
def u12 : List (Nat × Tr) := []
theorem a12 : AllKeep Proofs.Try.prog u12 := trivial

def c12 : Cfg := { n := 19, Γ := Gam, C := ofL u12, pm := pmL [], plan := noP, L := lpL [], unroll := nmL [], keep := kpL [] }
def S12 : Tr
  | [.agg [.int .i64 z, .ints false .u8 L], .agg [.int .i64 z', .ints false .u8 L']], none, post => (z = z' ∧ L = L') ∧ post (.bool true) none
  | _, _, _ => False
theorem t12_0 (z : Int) (L : List Int) (z' : Int) (L' : List Int) (post : AV → Option AV → Prop) : runF c12 pm12 Proofs.Try.f12 [.agg [.int .i64 z, .ints false .u8 L], .agg [.int .i64 z', .ints false .u8 L']] none post = (br (z == z') (post (AV.bool (strEq L L')) none) (post (AV.bool false) none)) := by kernel_rfl
theorem p12_0 (z : Int) (L : List Int) (z' : Int) (L' : List Int) (post : AV → Option AV → Prop) (hin : InRL [.agg [.int .i64 z, .ints false .u8 L], .agg [.int .i64 z', .ints false .u8 L']]) (hie : InRO none) (h : (z = z' ∧ L = L') ∧ post (.bool true) none) : Ok (runF c12 pm12 Proofs.Try.f12 [.agg [.int .i64 z, .ints false .u8 L], .agg [.int .i64 z', .ints false .u8 L']] none (post)) := by
  refine ⟨?_⟩
  rw [t12_0]
  obtain ⟨⟨rfl, rfl⟩, h⟩ := h
  simp only [beq_self_eq_true, strEq_refl, br_true]
  exact h
theorem k12 : Keeps Proofs.Try.prog 12 S12 := by
  refine ⟨?_, Proofs.Try.f12, by kernel_rfl, by kernel_rfl, by kernel_rfl⟩
  intro args e post h
  unfold S12 at h
  split at h
  · refine Spec.inR fun hin hie => fun_ok' (c := c12) gam_ok (l := u12) a12 rfl mixed_ok (fn := Proofs.Try.f12) (show Proofs.Try.prog.funcs[12]? = some Proofs.Try.f12 by kernel_rfl) (by kernel_rfl) (ls := []) rfl (.inl rfl) trivial (pm := pm12) (by simp [c12]) (by rintro ⟨t, l, h⟩; cases h) ?_
    exact p12_0 _ _ _ _ _ hin hie h
  · exact h.elim
def pm25 : Pm := ⟨[.i .u8], .no, [.li 5 .u8]⟩
def u25 : List (Nat × Tr) := []
theorem a25 : AllKeep Proofs.Try.prog u25 := trivial

def c25 : Cfg := { n := 8, Γ := Gam, C := ofL u25, pm := pmL [], plan := noP, L := lpL [], unroll := nmL [], keep := kpL [] }
def S25 : Tr
  | [.ints false .u8 L], none, post => chk (decide (L.length ≤ 1000000)) (post (.ownf 1000) (some (.lini 5 .u8 L)))
  | _, _, _ => False
theorem t25_0 (L : List Int) (post : AV → Option AV → Prop) : runF c25 pm25 Proofs.Try.f25 [.ints false .u8 L] none post = (∀ (b : Bool),
     (b = true → L = []) →
     br b (post (AV.ownf (1000 : Nat)) (some (AV.lini (5 : Nat) IntKind.u8 [])))
     (chk (decide ((0 : Nat) + L.length ≤ (1099511627776 : Nat)))
     (post (AV.ownf (1000 : Nat)) (some (AV.lini (5 : Nat) IntKind.u8 ([] ++ L)))))) := by kernel_rfl
theorem p25_0 (L : List Int) (post : AV → Option AV → Prop) (hin : InRL [.ints false .u8 L]) (hie : InRO none) (h : chk (decide (L.length ≤ 1000000)) (post (.ownf 1000) (some (.lini 5 .u8 L)))) : Ok (runF c25 pm25 Proofs.Try.f25 [.ints false .u8 L] none (post)) := by
  refine ⟨?_⟩
  rw [t25_0]
  obtain ⟨h1, h2⟩ := chk_iff.1 h
  have hl := of_decide_eq_true h1
  intro b hb
  refine br_of (fun e => ?_) (fun e => ?_)
  · obtain rfl := hb e
    exact h2
  · exact chk_dec (by omega) h2
theorem k25 : Keeps Proofs.Try.prog 25 S25 := by
  refine ⟨?_, Proofs.Try.f25, by kernel_rfl, by kernel_rfl, by kernel_rfl⟩
  intro args e post h
  unfold S25 at h
  split at h
  · refine Spec.inR fun hin hie => fun_ok' (c := c25) gam_ok (l := u25) a25 rfl mixed_ok (fn := Proofs.Try.f25) (show Proofs.Try.prog.funcs[25]? = some Proofs.Try.f25 by kernel_rfl) (by kernel_rfl) (ls := []) rfl (.inl rfl) trivial (pm := pm25) (by simp [c25]) (by rintro ⟨t, l, h⟩; cases h) ?_
    exact p25_0 _ _ hin hie h
  · exact h.elim
def pm29 : Pm := ⟨[.s, .s], .no, [.s]⟩
def u29 : List (Nat × Tr) := []
theorem a29 : AllKeep Proofs.Try.prog u29 := trivial

def c29 : Cfg := { n := 12, Γ := Gam, C := ofL u29, pm := pmL [], plan := noP, L := lpL [], unroll := nmL [], keep := kpL [] }
def S29 : Tr
  | [.int .i64 i, .int .u8 x, .gpr 1 ⟨0, 0, 0, 0, false, b⟩ 0], none, post => chk (decide (0 ≤ i ∧ i < b.length)) (post (.int .u8 (andG b i.toNat x)) none)
  | _, _, _ => False
theorem t29_0 (i x : Int) (b : List Int) (post : AV → Option AV → Prop) : runF c29 pm29 Proofs.Try.f29 [.int .i64 i, .int .u8 x, .gpr 1 ⟨0, 0, 0, 0, false, b⟩ 0] none post = (chk (inB i b.length) (post (AV.int IntKind.u8 (iand IntKind.u8 x (b.getD i.toNat (0 : Int)))) none)) := by kernel_rfl
theorem p29_0 (i x : Int) (b : List Int) (post : AV → Option AV → Prop) (hin : InRL [.int .i64 i, .int .u8 x, .gpr 1 ⟨0, 0, 0, 0, false, b⟩ 0]) (hie : InRO none) (h : chk (decide (0 ≤ i ∧ i < b.length)) (post (.int .u8 (andG b i.toNat x)) none)) : Ok (runF c29 pm29 Proofs.Try.f29 [.int .i64 i, .int .u8 x, .gpr 1 ⟨0, 0, 0, 0, false, b⟩ 0] none (post)) := by
  refine ⟨?_⟩
  rw [t29_0]
  obtain ⟨h1, h2⟩ := chk_iff.1 h
  have hl := of_decide_eq_true h1
  exact chk_inB (by omega) (by omega) h2
theorem k29 : Keeps Proofs.Try.prog 29 S29 := by
  refine ⟨?_, Proofs.Try.f29, by kernel_rfl, by kernel_rfl, by kernel_rfl⟩
  intro args e post h
  unfold S29 at h
  split at h
  · refine Spec.inR fun hin hie => fun_ok' (c := c29) gam_ok (l := u29) a29 rfl mixed_ok (fn := Proofs.Try.f29) (show Proofs.Try.prog.funcs[29]? = some Proofs.Try.f29 by kernel_rfl) (by kernel_rfl) (ls := []) rfl (.inl rfl) trivial (pm := pm29) (by simp [c29]) (by rintro ⟨t, l, h⟩; cases h) ?_
    exact p29_0 _ _ _ _ hin hie h
  · exact h.elim
def pm35 : Pm := ⟨[.s, .s], .no, [.s]⟩
def u35 : List (Nat × Tr) := []
theorem a35 : AllKeep Proofs.Try.prog u35 := trivial

def c35 : Cfg := { n := 5, Γ := Gam, C := ofL u35, pm := pmL [], plan := noP, L := lpL [], unroll := nmL [], keep := kpL [] }
def S35 : Tr
  | [.int .i64 i, .int .u8 x], none, post => post (.int .u8 255) none
  | _, _, _ => False
theorem t35_0 (i x : Int) (post : AV → Option AV → Prop) : runF c35 pm35 Proofs.Try.f35 [.int .i64 i, .int .u8 x] none post = (post (AV.int IntKind.u8 (255 : Int)) none) := by kernel_rfl
theorem p35_0 (i x : Int) (post : AV → Option AV → Prop) (hin : InRL [.int .i64 i, .int .u8 x]) (hie : InRO none) (h : post (.int .u8 255) none) : Ok (runF c35 pm35 Proofs.Try.f35 [.int .i64 i, .int .u8 x] none (post)) := by
  refine ⟨?_⟩
  rw [t35_0]
  exact h
theorem k35 : Keeps Proofs.Try.prog 35 S35 := by
  refine ⟨?_, Proofs.Try.f35, by kernel_rfl, by kernel_rfl, by kernel_rfl⟩
  intro args e post h
  unfold S35 at h
  split at h
  · refine Spec.inR fun hin hie => fun_ok' (c := c35) gam_ok (l := u35) a35 rfl mixed_ok (fn := Proofs.Try.f35) (show Proofs.Try.prog.funcs[35]? = some Proofs.Try.f35 by kernel_rfl) (by kernel_rfl) (ls := []) rfl (.inl rfl) trivial (pm := pm35) (by simp [c35]) (by rintro ⟨t, l, h⟩; cases h) ?_
    exact p35_0 _ _ _ hin hie h
  · exact h.elim
end Go.Proofs.Ytnioiijcmdnhaaa.V
