import Derived.Test.YtnioiijcmdnhaaaPlans
import Derived.Test.YtnioiijcmdnhaaaVNum
import Derived.Test.YtnioiijcmdnhaaaProg
import Derived.Test.YtnioiijcmdnhaaaS0
import Derived.Test.YtnioiijcmdnhaaaS1
import Derived.KernelRfl
set_option linter.all false
set_option maxHeartbeats 1000000
namespace Go.Proofs.Ytnioiijcmdnhaaa.V
open Go
def pm18 : Pm := ⟨[flS, .s, .s, .s], .no, [.i .u8, .s]⟩
def u18 : List (Nat × Tr) := [(26, S26)]
theorem a18 : AllKeep Proofs.Try.prog u18 := ⟨k26, trivial⟩

def c18 : Cfg := { n := 34, Γ := Gam, C := ofL u18, pm := pmL [(26, pm26)], plan := noP, L := lpL [], unroll := nmL [], keep := kpL [] }
def S18 : Tr
  | [.agg [.int .i64 z, .ints false .u8 L], .int .i64 page, .int .i64 at', .int .i64 n], none, post => post (.tup [.ints false .u8 (rdL z L page at' n), .int .i64 (areaE z L.length page at' n)]) none
  | _, _, _ => False
theorem t18_0 (z : Int) (L : List Int) (page at' n : Int) (post : AV → Option AV → Prop) : runF c18 pm18 Proofs.Try.f18 [.agg [.int .i64 z, .ints false .u8 L], .int .i64 page, .int .i64 at', .int .i64 n] none post = (br (areaE z L.length page at' n != (0 : Int))
     (post (AV.tup [AV.ints false IntKind.u8 [], AV.int IntKind.i64 (areaE z L.length page at' n)]) none)
     (chk
     (cutB L.length (some (IntKind.i64.wrap (IntKind.i64.wrap (page * z) + at')))
     (some (IntKind.i64.wrap (IntKind.i64.wrap (IntKind.i64.wrap (page * z) + at') + n))))
     (chk
     (decide
     ((List.take
     ((IntKind.i64.wrap (IntKind.i64.wrap (IntKind.i64.wrap (page * z) + at') + n)).toNat -
     (IntKind.i64.wrap (IntKind.i64.wrap (page * z) + at')).toNat)
     (List.drop (IntKind.i64.wrap (IntKind.i64.wrap (page * z) + at')).toNat L)).length ≤
     (1099511627776 : Nat)))
     (post
     (AV.tup
     [AV.ints false IntKind.u8
     (List.take
     ((IntKind.i64.wrap (IntKind.i64.wrap (IntKind.i64.wrap (page * z) + at') + n)).toNat -
     (IntKind.i64.wrap (IntKind.i64.wrap (page * z) + at')).toNat)
     (List.drop (IntKind.i64.wrap (IntKind.i64.wrap (page * z) + at')).toNat L)),
     AV.int IntKind.i64 (0 : Int)])
     none)))) := by kernel_rfl
theorem p18_0 (z : Int) (L : List Int) (page at' n : Int) (post : AV → Option AV → Prop) (hin : InRL [.agg [.int .i64 z, .ints false .u8 L], .int .i64 page, .int .i64 at', .int .i64 n]) (hie : InRO none) (h : post (.tup [.ints false .u8 (rdL z L page at' n), .int .i64 (areaE z L.length page at' n)]) none) : Ok (runF c18 pm18 Proofs.Try.f18 [.agg [.int .i64 z, .ints false .u8 L], .int .i64 page, .int .i64 at', .int .i64 n] none (post)) := by
  refine ⟨?_⟩
  rw [t18_0]
  refine br_ne (fun hc => ?_) (fun hc => ?_)
  · refine post_of h ?_ rfl
    rw [rdL, if_pos hc]
  · obtain ⟨g1, g2, g3, g4, g5, g6, g7, g8⟩ := area_ok hc
    obtain ⟨_, _, w3⟩ := val_len g1
    have hR : rdL z L page at' n = (L.drop (page * z + at').toNat).take n.toNat := by rw [rdL, if_neg (fun hh => hh hc)]
    generalize page * z = pz at *
    rw [wrap_i64 (n := pz) (by omega) (by omega), wrap_i64 (n := pz + at') (by omega) (by omega), wrap_i64 (n := pz + at' + n) (by omega) (by omega), show (pz + at' + n).toNat - (pz + at').toNat = n.toNat by omega]
    refine chk_of (cut_both (by omega) (by omega) (by omega)) (chk_dec (by rw [List.length_take]; omega) (post_of h ?_ rfl))
    rw [hR, hc]
theorem k18 : Keeps Proofs.Try.prog 18 S18 := by
  refine ⟨?_, Proofs.Try.f18, by kernel_rfl, by kernel_rfl, by kernel_rfl⟩
  intro args e post h
  unfold S18 at h
  split at h
  · refine Spec.inR fun hin hie => fun_ok' (c := c18) gam_ok (l := u18) a18 rfl mixed_ok (fn := Proofs.Try.f18) (show Proofs.Try.prog.funcs[18]? = some Proofs.Try.f18 by kernel_rfl) (by kernel_rfl) (ls := []) rfl (.inl rfl) trivial (pm := pm18) (by simp [c18]) (by rintro ⟨t, l, h⟩; cases h) ?_
    exact p18_0 _ _ _ _ _ _ hin hie h
  · exact h.elim
def pm17 : Pm := ⟨[flS, .s, .s, .s], .no, [.i .u8, .s]⟩
def u17 : List (Nat × Tr) := [(13, S13), (24, S24), (25, S25)]
theorem a17 : AllKeep Proofs.Try.prog u17 := ⟨k13, k24, k25, trivial⟩

def c17 : Cfg := { n := 57, Γ := Gam, C := ofL u17, pm := pmL [(13, pm13), (24, pm24), (25, pm25)], plan := noP, L := lpL [], unroll := nmL [], keep := kpL [] }
def S17 : Tr
  | [.agg [.int .i64 z, .ints false .u8 L], .int .i64 page, .int .i64 at', .int .i64 n], none, post => post (.tup [.ints false .u8 (rdL z L page at' n), .int .i64 (areaE z L.length page at' n)]) none
  | _, _, _ => False
theorem t17_0 (z : Int) (L : List Int) (page at' n : Int) (post : AV → Option AV → Prop) : runF c17 pm17 Proofs.Try.f17 [.agg [.int .i64 z, .ints false .u8 L], .int .i64 page, .int .i64 at', .int .i64 n] none post = (br (valE z L.length != (0 : Int))
     (post (AV.tup [AV.ints false IntKind.u8 [], AV.int IntKind.i64 (valE z L.length)]) none)
     (chk (decide (valE z L.length = (0 : Int)))
     (br (!decide ((0 : Int) ≤ page ∧ page < @Nat.cast Int _ L.length / z))
     (post (AV.tup [AV.ints false IntKind.u8 [], AV.int IntKind.i64 (9 : Int)]) none)
     (br (decide (at' < (0 : Int))) (post (AV.tup [AV.ints false IntKind.u8 [], AV.int IntKind.i64 (9 : Int)]) none)
     (br (decide (n < (0 : Int))) (post (AV.tup [AV.ints false IntKind.u8 [], AV.int IntKind.i64 (9 : Int)]) none)
     (br (decide (n > z)) (post (AV.tup [AV.ints false IntKind.u8 [], AV.int IntKind.i64 (9 : Int)]) none)
     (br (decide (at' > IntKind.i64.wrap (z - n)))
     (post (AV.tup [AV.ints false IntKind.u8 [], AV.int IntKind.i64 (9 : Int)]) none)
     (chk
     (cutB L.length (some (IntKind.i64.wrap (IntKind.i64.wrap (page * z) + at')))
     (some (IntKind.i64.wrap (IntKind.i64.wrap (IntKind.i64.wrap (page * z) + at') + n))))
     (chk
     (decide
     ((List.take
     ((IntKind.i64.wrap (IntKind.i64.wrap (IntKind.i64.wrap (page * z) + at') + n)).toNat -
     (IntKind.i64.wrap (IntKind.i64.wrap (page * z) + at')).toNat)
     (List.drop (IntKind.i64.wrap (IntKind.i64.wrap (page * z) + at')).toNat L)).length ≤
     (1000000 : Nat)))
     (post
     (AV.tup
     [AV.ints false IntKind.u8
     (List.take
     ((IntKind.i64.wrap (IntKind.i64.wrap (IntKind.i64.wrap (page * z) + at') + n)).toNat -
     (IntKind.i64.wrap (IntKind.i64.wrap (page * z) + at')).toNat)
     (List.drop (IntKind.i64.wrap (IntKind.i64.wrap (page * z) + at')).toNat L)),
     AV.int IntKind.i64 (0 : Int)])
     none)))))))))) := by kernel_rfl
theorem p17_0 (z : Int) (L : List Int) (page at' n : Int) (post : AV → Option AV → Prop) (hin : InRL [.agg [.int .i64 z, .ints false .u8 L], .int .i64 page, .int .i64 at', .int .i64 n]) (hie : InRO none) (h : post (.tup [.ints false .u8 (rdL z L page at' n), .int .i64 (areaE z L.length page at' n)]) none) : Ok (runF c17 pm17 Proofs.Try.f17 [.agg [.int .i64 z, .ints false .u8 L], .int .i64 page, .int .i64 at', .int .i64 n] none (post)) := by
  refine ⟨?_⟩
  rw [t17_0]
  refine br_ne (fun hv => ?_) (fun hv => chk_dec hv ?_)
  · refine post_of h ?_ rfl
    rw [rdL, areaE, if_pos hv, if_pos hv]
  · obtain ⟨w1, w2, w3⟩ := val_len hv
    obtain ⟨v1, v2, _⟩ := val_ok hv
    have hA : areaE z L.length page at' n = if page < 0 ∨ (L.length : Int) / z ≤ page ∨ at' < 0 ∨ n < 0 ∨ z < at' ∨ z - at' < n then 9 else 0 := by rw [areaE, if_neg (fun hh => hh hv)]
    by_cases hc : areaE z L.length page at' n = 0
    · obtain ⟨g1, g2, g3, g4, g5, g6, g7, g8⟩ := area_ok hc
      have hR : rdL z L page at' n = (L.drop (page * z + at').toNat).take n.toNat := by rw [rdL, if_neg (fun hh => hh hc)]
      generalize page * z = pz at *
      rw [wrap_i64 (n := z - n) (by omega) (by omega), wrap_i64 (n := pz) (by omega) (by omega), wrap_i64 (n := pz + at') (by omega) (by omega), wrap_i64 (n := pz + at' + n) (by omega) (by omega), show (pz + at' + n).toNat - (pz + at').toNat = n.toNat by omega]
      refine br_not (br_dec (fun _ => br_dec (fun _ => by exfalso; omega) (fun _ => br_dec (fun _ => by exfalso; omega) (fun _ => br_dec (fun _ => by exfalso; omega) (fun _ => br_dec (fun _ => by exfalso; omega) (fun _ => ?_))))) (fun hh => absurd ⟨g2, g3⟩ hh))
      refine chk_of (cut_both (by omega) (by omega) (by omega)) (chk_dec (by rw [List.length_take]; omega) (post_of h ?_ rfl))
      rw [hR, hc]
    · have h9 : areaE z L.length page at' n = 9 := by
        rw [hA]
        split
        · rfl
        · rename_i hq
          rw [hA, if_neg hq] at hc
          exact absurd rfl hc
      have hq : page < 0 ∨ (L.length : Int) / z ≤ page ∨ at' < 0 ∨ n < 0 ∨ z < at' ∨ z - at' < n := by
        rw [hA] at hc
        split at hc
        · assumption
        · exact absurd rfl hc
      have hR : rdL z L page at' n = [] := by rw [rdL, if_pos hc]
      rw [h9, hR] at h
      refine br_not (br_dec (fun hp => br_dec (fun _ => h) (fun _ => br_dec (fun _ => h) (fun _ => br_dec (fun _ => h) (fun _ => ?_)))) (fun _ => h))
      rw [wrap_i64 (n := z - n) (by omega) (by omega)]
      refine br_dec (fun _ => h) (fun _ => ?_)
      exfalso
      omega
theorem k17 : Keeps Proofs.Try.prog 17 S17 := by
  refine ⟨?_, Proofs.Try.f17, by kernel_rfl, by kernel_rfl, by kernel_rfl⟩
  intro args e post h
  unfold S17 at h
  split at h
  · refine Spec.inR fun hin hie => fun_ok' (c := c17) gam_ok (l := u17) a17 rfl mixed_ok (fn := Proofs.Try.f17) (show Proofs.Try.prog.funcs[17]? = some Proofs.Try.f17 by kernel_rfl) (by kernel_rfl) (ls := []) rfl (.inl rfl) trivial (pm := pm17) (by simp [c17]) (by rintro ⟨t, l, h⟩; cases h) ?_
    exact p17_0 _ _ _ _ _ _ hin hie h
  · exact h.elim
def pm15 : Pm := ⟨[flS, .s], .no, [flS]⟩
def u15 : List (Nat × Tr) := []
theorem a15 : AllKeep Proofs.Try.prog u15 := trivial

def c15 : Cfg := { n := 31, Γ := Gam, C := ofL u15, pm := pmL [], plan := noP, L := lpL [], unroll := nmL [], keep := kpL [] }
def S15 : Tr
  | [.agg [.int .i64 z, .ints false .u8 L], .int .i64 n], none, post => chk (decide (0 < L.length)) (∀ (z' : Int) (L' : List Int), L'.length ≤ L.length → post (.agg [.int .i64 z', .ints false .u8 L']) none)
  | _, _, _ => False
theorem t15_0 (z : Int) (L : List Int) (n : Int) (post : AV → Option AV → Prop) : runF c15 pm15 Proofs.Try.f15 [.agg [.int .i64 z, .ints false .u8 L], .int .i64 n] none post = (br (iand IntKind.i64 n (15 : Int) == (0 : Int))
     (chk (inB ((iand IntKind.i64 (shr IntKind.i64 n (4 : Int)) (255 : Int)).tmod (5 : Int)) (5 : Nat))
     (chk (decide (((iand IntKind.i64 (shr IntKind.i64 n (4 : Int)) (255 : Int)).tmod (5 : Int)).toNat < (5 : Nat)))
     (post
     (AV.agg
     [AV.int IntKind.i64
     ([(0 : Int), (511 : Int), (512 : Int), (8193 : Int), (-1 : Int)].getD
     ((iand IntKind.i64 (shr IntKind.i64 n (4 : Int)) (255 : Int)).tmod (5 : Int)).toNat (0 : Int)),
     AV.ints false IntKind.u8 L])
     none)))
     (br (iand IntKind.i64 n (15 : Int) == (1 : Int))
     (chk (cutB L.length none (some (IntKind.i64.wrap (@Nat.cast Int _ L.length - (1 : Int)))))
     (post
     (AV.agg
     [AV.int IntKind.i64 z,
     AV.ints false IntKind.u8 (List.take (IntKind.i64.wrap (@Nat.cast Int _ L.length - (1 : Int))).toNat L)])
     none))
     (br (iand IntKind.i64 n (15 : Int) == (2 : Int))
     (post (AV.agg [AV.int IntKind.i64 z, AV.ints false IntKind.u8 []]) none)
     (post (AV.agg [AV.int IntKind.i64 z, AV.ints false IntKind.u8 L]) none)))) := by kernel_rfl
theorem p15_0 (z : Int) (L : List Int) (n : Int) (post : AV → Option AV → Prop) (hin : InRL [.agg [.int .i64 z, .ints false .u8 L], .int .i64 n]) (hie : InRO none) (h : chk (decide (0 < L.length)) (∀ (z' : Int) (L' : List Int), L'.length ≤ L.length → post (.agg [.int .i64 z', .ints false .u8 L']) none)) : Ok (runF c15 pm15 Proofs.Try.f15 [.agg [.int .i64 z, .ints false .u8 L], .int .i64 n] none (post)) := by
  refine ⟨?_⟩
  rw [t15_0]
  obtain ⟨h1, h2⟩ := chk_iff.1 h
  have hl := of_decide_eq_true h1
  have i1 : 0 ≤ iand .i64 (shr .i64 n 4) 255 ∧ iand .i64 (shr .i64 n 4) 255 ≤ 255 := iand_rng (shr .i64 n 4) 255 (by omega)
  have i2 := tmod_rng (a := iand .i64 (shr .i64 n 4) 255) (m := 5) i1.1 (by omega)
  have hlen : (L.length : Int) ≤ 9223372036854775807 := by
    have hin' := hin
    simp only [InRL, InR] at hin'
    have := hin'.1.2.1.2
    have hm : maxLen = 9223372036854775807 := rfl
    omega
  refine br_eq (fun _ => ?_) (fun _ => br_eq (fun _ => ?_) (fun _ => br_eq (fun _ => ?_) (fun _ => ?_)))
  · exact chk_inB i2.1 i2.2 (chk_dec (by have := i2; omega) (h2 _ _ (Nat.le_refl _)))
  · rw [wrap_i64 (n := (L.length : Int) - 1) (by omega) (by omega)]
    exact chk_of (cut_hi (by omega) (by omega)) (h2 _ _ (by rw [List.length_take]; omega))
  · exact h2 _ _ (Nat.zero_le _)
  · exact h2 _ _ (Nat.le_refl _)
theorem k15 : Keeps Proofs.Try.prog 15 S15 := by
  refine ⟨?_, Proofs.Try.f15, by kernel_rfl, by kernel_rfl, by kernel_rfl⟩
  intro args e post h
  unfold S15 at h
  split at h
  · refine Spec.inR fun hin hie => fun_ok' (c := c15) gam_ok (l := u15) a15 rfl mixed_ok (fn := Proofs.Try.f15) (show Proofs.Try.prog.funcs[15]? = some Proofs.Try.f15 by kernel_rfl) (by kernel_rfl) (ls := []) rfl (.inl rfl) trivial (pm := pm15) (by simp [c15]) (by rintro ⟨t, l, h⟩; cases h) ?_
    exact p15_0 _ _ _ _ hin hie h
  · exact h.elim
def pm11 : Pm := ⟨[.s, .s], .no, [flR, .s]⟩
def u11 : List (Nat × Tr) := []
theorem a11 : AllKeep Proofs.Try.prog u11 := trivial

def kp11_5 : List (Loc × Keep) := [(.t 0, .shp .s), (.t 1, .shp .s), (.t 4, .ptr), (.t 6, .ptr), (.t 7, .shp .s), (.c 6 1, .own 900 (.li 5 .u8))]
def tr11_5 : Trim := .some [4, 6] [4, 6, 900] [] []
def L11_5 : LTr
  | ⟨[(0, .int .i64 z), (1, .int .i64 n), (4, .ptr 4 0 0), (6, .ptr 6 0 0), (7, .int .i64 i)], [(4, .box 24 [.int .i64 0, .nil]), (6, .box 24 [.int .i64 z2, .ownf 900]), (900, .lini 5 .u8 L)]⟩, k => chk (decide (z2 = z ∧ 0 ≤ i ∧ i ≤ z * n ∧ z * n ≤ 65536 ∧ (L.length : Int) = i)) (k (.exit 0) ⟨[(4, .ptr 4 0 0), (6, .ptr 6 0 0)], [(4, .box 24 [.int .i64 0, .nil]), (6, .box 24 [.int .i64 z, .ownf 900]), (900, .lini 5 .u8 (L ++ List.replicate ((z * n).toNat - L.length) 255))]⟩)
  | _, _ => False
def c11_0 : Cfg := { n := 38, Γ := Gam, C := ofL u11, pm := pmL [], plan := noP, L := lpL [], unroll := nmL [], keep := kpL [(5, kp11_5)] }
def c11 : Cfg := { n := 38, Γ := Gam, C := ofL u11, pm := pmL [], plan := noP, L := lpL [(5, L11_5)], unroll := nmL [], keep := kpL [(5, kp11_5)] }
def S11 : Tr
  | [.int .i64 z, .int .i64 n], none, post => post (.tup [.agg [.int .i64 (newZ z n), .ownf 1000], .int .i64 (newE z n)]) (some (.lini 5 .u8 (List.replicate (newN z n) 255)))
  | _, _, _ => False
theorem t11_0 (z n : Int) (post : AV → Option AV → Prop) : runF c11 pm11 Proofs.Try.f11 [.int .i64 z, .int .i64 n] none post = (br (decide (z < (512 : Int)))
     (post (AV.tup [AV.agg [AV.int IntKind.i64 (0 : Int), AV.ownf (1000 : Nat)], AV.int IntKind.i64 (9 : Int)])
     (some (AV.lini (5 : Nat) IntKind.u8 [])))
     (br (decide (z > (8192 : Int)))
     (post (AV.tup [AV.agg [AV.int IntKind.i64 (0 : Int), AV.ownf (1000 : Nat)], AV.int IntKind.i64 (9 : Int)])
     (some (AV.lini (5 : Nat) IntKind.u8 [])))
     (br (decide (n < (1 : Int)))
     (post (AV.tup [AV.agg [AV.int IntKind.i64 (0 : Int), AV.ownf (1000 : Nat)], AV.int IntKind.i64 (9 : Int)])
     (some (AV.lini (5 : Nat) IntKind.u8 [])))
     (br (decide (n > (8 : Int)))
     (post (AV.tup [AV.agg [AV.int IntKind.i64 (0 : Int), AV.ownf (1000 : Nat)], AV.int IntKind.i64 (9 : Int)])
     (some (AV.lini (5 : Nat) IntKind.u8 [])))
     (chk
     (decide (z = z ∧ (0 : Int) ≤ (0 : Int) ∧ (0 : Int) ≤ z * n ∧ z * n ≤ (65536 : Int) ∧ (0 : Int) = (0 : Int)))
     (post (AV.tup [AV.agg [AV.int IntKind.i64 z, AV.ownf (1000 : Nat)], AV.int IntKind.i64 (0 : Int)])
     (some (AV.lini (5 : Nat) IntKind.u8 ([] ++ List.replicate ((z * n).toNat - (0 : Nat)) (255 : Int)))))))))) := by kernel_rfl
theorem q11_5 (z n i z2 : Int) (L : List Int) (k : Out → AS → Prop) : stepL c11_0 kp11_5 tr11_5 (loopAt Proofs.Try.f11 5) ⟨[(0, .int .i64 z), (1, .int .i64 n), (4, .ptr 4 0 0), (6, .ptr 6 0 0), (7, .int .i64 i)], [(4, .box 24 [.int .i64 0, .nil]), (6, .box 24 [.int .i64 z2, .ownf 900]), (900, .lini 5 .u8 L)]⟩ k = (br (decide (i < IntKind.i64.wrap (z * n)))
     (chk (decide (L.length + (1 : Nat) ≤ (1099511627776 : Nat)))
     (k Out.normal
     (AS.mk
     [((0 : Nat), AV.int IntKind.i64 z), ((1 : Nat), AV.int IntKind.i64 n),
     ((4 : Nat), AV.ptr (4 : Nat) (0 : Nat) (0 : Nat)), ((6 : Nat), AV.ptr (6 : Nat) (0 : Nat) (0 : Nat)),
     ((7 : Nat), AV.int IntKind.i64 (IntKind.i64.wrap (i + (1 : Int))))]
     [((4 : Nat), AV.box (24 : Nat) [AV.int IntKind.i64 (0 : Int), AV.nil]),
     ((6 : Nat), AV.box (24 : Nat) [AV.int IntKind.i64 z2, AV.ownf (900 : Nat)]),
     ((900 : Nat), AV.lini (5 : Nat) IntKind.u8 (L ++ [(255 : Int)]))])))
     (k (Out.exit (0 : Nat))
     (AS.mk [((4 : Nat), AV.ptr (4 : Nat) (0 : Nat) (0 : Nat)), ((6 : Nat), AV.ptr (6 : Nat) (0 : Nat) (0 : Nat))]
     [((4 : Nat), AV.box (24 : Nat) [AV.int IntKind.i64 (0 : Int), AV.nil]),
     ((6 : Nat), AV.box (24 : Nat) [AV.int IntKind.i64 z2, AV.ownf (900 : Nat)]),
     ((900 : Nat), AV.lini (5 : Nat) IntKind.u8 L)]))) := by kernel_rfl

theorem i11_5 (k : Out → AS → Prop) (fuel : Nat) : ∀ (z n i z2 : Int) (L : List Int), (z * n - i).toNat < fuel → (z2 = z ∧ 0 ≤ i ∧ i ≤ z * n ∧ z * n ≤ 65536 ∧ (L.length : Int) = i) → (k (.exit 0) ⟨[(4, .ptr 4 0 0), (6, .ptr 6 0 0)], [(4, .box 24 [.int .i64 0, .nil]), (6, .box 24 [.int .i64 z, .ownf 900]), (900, .lini 5 .u8 (L ++ List.replicate ((z * n).toNat - L.length) 255))]⟩) → iterL (stepL c11_0 kp11_5 tr11_5 (loopAt Proofs.Try.f11 5)) k fuel ⟨[(0, .int .i64 z), (1, .int .i64 n), (4, .ptr 4 0 0), (6, .ptr 6 0 0), (7, .int .i64 i)], [(4, .box 24 [.int .i64 0, .nil]), (6, .box 24 [.int .i64 z2, .ownf 900]), (900, .lini 5 .u8 L)]⟩ := by
  induction fuel with
  | zero => intro z n i z2 L hm; omega
  | succ fuel ih =>
    intro z n i z2 L hm hp hk
    simp only [iterL]
    rw [q11_5]
    dsimp only
    obtain ⟨rfl, p1, p2, p3, p4⟩ := hp
    have hw : IntKind.i64.wrap (z2 * n) = z2 * n := wrap_i64 (by omega) (by omega)
    rw [hw]
    generalize hm' : z2 * n = m at *
    refine br_dec (fun hc => chk_dec (by omega) ?_) (fun hc => k_of hk ?_)
    · rw [wrap_i64 (n := i + 1) (by omega) (by omega)]
      refine ih _ _ _ _ _ (by rw [hm']; omega) ⟨rfl, by omega, by rw [hm']; omega, by rw [hm']; omega, by rw [List.length_append]; simp; omega⟩ (k_of hk ?_)
      rw [hm', List.length_append, List.append_assoc, show m.toNat - L.length = (m.toNat - (L.length + [(255 : Int)].length)) + 1 by simp; omega, List.replicate_succ]
      rfl
    · rw [show m.toNat - L.length = 0 by omega]
      simp
theorem l11_5 : ∀ s k, L11_5 s k → Tri Proofs.Try.prog 38 (.loop (loopAt Proofs.Try.f11 5)) s k := by
  intro s k h
  unfold L11_5 at h
  split at h
  · obtain ⟨h1, h2⟩ := chk_iff.1 h
    exact iter_ok (c := c11_0) gam_ok (l := u11) a11 rfl mixed_ok (by kernel_rfl) (ls := []) rfl (.inl rfl) trivial (kps := kp11_5) (tr := tr11_5) (_) (i11_5 k _ _ _ _ _ _ (Nat.lt_succ_self _) (of_decide_eq_true h1) h2)
  · exact h.elim
theorem p11_0 (z n : Int) (post : AV → Option AV → Prop) (hin : InRL [.int .i64 z, .int .i64 n]) (hie : InRO none) (h : post (.tup [.agg [.int .i64 (newZ z n), .ownf 1000], .int .i64 (newE z n)]) (some (.lini 5 .u8 (List.replicate (newN z n) 255)))) : Ok (runF c11 pm11 Proofs.Try.f11 [.int .i64 z, .int .i64 n] none (post)) := by
  refine ⟨?_⟩
  rw [t11_0]
  have hlenM : ∀ a b : Int, 512 ≤ a → a ≤ 8192 → 1 ≤ b → b ≤ 8 → 0 ≤ a * b ∧ a * b ≤ 65536 := fun a b h1 h2 h3 h4 => by
    refine ⟨Int.mul_nonneg (by omega) (by omega), ?_⟩
    have : a * b ≤ 8192 * 8 := Int.mul_le_mul h2 h4 (by omega) (by omega)
    omega
  by_cases hc : z < 512 ∨ 8192 < z ∨ n < 1 ∨ 8 < n
  · have hE : newE z n = 9 := if_pos hc
    have hZ : newZ z n = 0 := by rw [newZ, if_pos (by rw [hE]; decide)]
    have hN : newN z n = 0 := by rw [newN, if_pos (by rw [hE]; decide)]
    rw [hE, hZ, hN] at h
    refine br_dec (fun _ => h) (fun _ => br_dec (fun _ => h) (fun _ => br_dec (fun _ => h) (fun _ => br_dec (fun _ => h) (fun _ => ?_))))
    exfalso
    omega
  · have hE : newE z n = 0 := if_neg hc
    have hZ : newZ z n = z := by rw [newZ, if_neg (by rw [hE]; decide)]
    have hN : newN z n = (z * n).toNat := by rw [newN, if_neg (by rw [hE]; decide)]
    rw [hE, hZ, hN] at h
    have hm := hlenM z n (by omega) (by omega) (by omega) (by omega)
    refine br_dec (fun _ => by exfalso; omega) (fun _ => br_dec (fun _ => by exfalso; omega) (fun _ => br_dec (fun _ => by exfalso; omega) (fun _ => br_dec (fun _ => by exfalso; omega) (fun _ => chk_dec ?_ (post_of h rfl ?_)))))
    · exact ⟨rfl, Int.le_refl 0, hm.1, hm.2, rfl⟩
    · simp
theorem k11 : Keeps Proofs.Try.prog 11 S11 := by
  refine ⟨?_, Proofs.Try.f11, by kernel_rfl, by kernel_rfl, by kernel_rfl⟩
  intro args e post h
  unfold S11 at h
  split at h
  · refine Spec.inR fun hin hie => fun_ok' (c := c11) gam_ok (l := u11) a11 rfl mixed_ok (fn := Proofs.Try.f11) (show Proofs.Try.prog.funcs[11]? = some Proofs.Try.f11 by kernel_rfl) (by kernel_rfl) (ls := [(5, L11_5)]) rfl (.inr (by kernel_rfl)) ⟨l11_5, trivial⟩ (pm := pm11) (by simp [c11]) (by rintro ⟨t, l, h⟩; cases h) ?_
    exact p11_0 _ _ _ hin hie h
  · exact h.elim
end Go.Proofs.Ytnioiijcmdnhaaa.V
