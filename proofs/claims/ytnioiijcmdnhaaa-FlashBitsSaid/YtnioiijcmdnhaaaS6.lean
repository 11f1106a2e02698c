import Derived.Test.YtnioiijcmdnhaaaPlans
import Derived.Test.YtnioiijcmdnhaaaVNum
import Derived.Test.YtnioiijcmdnhaaaProg
import Derived.Test.YtnioiijcmdnhaaaS0
import Derived.Test.YtnioiijcmdnhaaaS1
import Derived.Test.YtnioiijcmdnhaaaS2
import Derived.Test.YtnioiijcmdnhaaaS3
import Derived.Test.YtnioiijcmdnhaaaS4
import Derived.Test.YtnioiijcmdnhaaaR4
import Derived.KernelRfl
set_option linter.all false
set_option maxHeartbeats 1000000
namespace Go.Proofs.Ytnioiijcmdnhaaa.V
open Go
def pm10 : Pm := ⟨[.s, .s], .no, [flS, .s]⟩
def u10 : List (Nat × Tr) := [(22, S22), (23, S23)]
theorem a10 : AllKeep Proofs.Try.prog u10 := ⟨k22, k23, trivial⟩

def c10 : Cfg := { n := 25, Γ := Gam, C := ofL u10, pm := pmL [(22, pm22), (23, pm23)], plan := noP, L := lpL [], unroll := nmL [], keep := kpL [] }
def S10 : Tr
  | [.int .i64 z, .int .i64 n], none, post => post (.tup [.agg [.int .i64 (newZ z n), .ints false .u8 (List.replicate (newN z n) 255)], .int .i64 (newE z n)]) none
  | _, _, _ => False
theorem t10_0 (z n : Int) (post : AV → Option AV → Prop) : runF c10 pm10 Proofs.Try.f10 [.int .i64 z, .int .i64 n] none post = (br (!decide ((512 : Int) ≤ z ∧ z ≤ (8192 : Int)))
     (post (AV.tup [AV.agg [AV.int IntKind.i64 (0 : Int), AV.ints false IntKind.u8 []], AV.int IntKind.i64 (9 : Int)])
     none)
     (br (decide (n < (1 : Int)))
     (post (AV.tup [AV.agg [AV.int IntKind.i64 (0 : Int), AV.ints false IntKind.u8 []], AV.int IntKind.i64 (9 : Int)])
     none)
     (br (decide (n > (8 : Int)))
     (post (AV.tup [AV.agg [AV.int IntKind.i64 (0 : Int), AV.ints false IntKind.u8 []], AV.int IntKind.i64 (9 : Int)])
     none)
     (chk (decide ((1 : Int) ≤ IntKind.i64.wrap (z * n) ∧ IntKind.i64.wrap (z * n) ≤ (65536 : Int)))
     (post
     (AV.tup
     [AV.agg
     [AV.int IntKind.i64 z,
     AV.ints false IntKind.u8 (List.replicate (IntKind.i64.wrap (z * n)).toNat (255 : Int))],
     AV.int IntKind.i64 (0 : Int)])
     none))))) := by kernel_rfl
theorem p10_0 (z n : Int) (post : AV → Option AV → Prop) (hin : InRL [.int .i64 z, .int .i64 n]) (hie : InRO none) (h : post (.tup [.agg [.int .i64 (newZ z n), .ints false .u8 (List.replicate (newN z n) 255)], .int .i64 (newE z n)]) none) : Ok (runF c10 pm10 Proofs.Try.f10 [.int .i64 z, .int .i64 n] none (post)) := by
  refine ⟨?_⟩
  rw [t10_0]
  by_cases hc : z < 512 ∨ 8192 < z ∨ n < 1 ∨ 8 < n
  · have hE : newE z n = 9 := if_pos hc
    have hZ : newZ z n = 0 := by rw [newZ, if_pos (by rw [hE]; decide)]
    have hN : newN z n = 0 := by rw [newN, if_pos (by rw [hE]; decide)]
    rw [hE, hZ, hN] at h
    refine br_not (br_dec (fun _ => br_dec (fun _ => h) (fun _ => br_dec (fun _ => h) (fun _ => ?_))) (fun _ => h))
    exfalso
    omega
  · have hE : newE z n = 0 := if_neg hc
    obtain ⟨v1, v2, v3, v4, v5, v6, v7, v8⟩ := val_new hE
    rw [hE, v3, v4] at h
    rw [wrap_i64 (n := z * n) (by omega) (by omega)]
    refine br_not (br_dec (fun _ => br_dec (fun _ => by exfalso; omega) (fun _ => br_dec (fun _ => by exfalso; omega) (fun _ => chk_dec (by omega) h))) (fun hh => by exfalso; omega))
theorem k10 : Keeps Proofs.Try.prog 10 S10 := by
  refine ⟨?_, Proofs.Try.f10, by kernel_rfl, by kernel_rfl, by kernel_rfl⟩
  intro args e post h
  unfold S10 at h
  split at h
  · refine Spec.inR fun hin hie => fun_ok' (c := c10) gam_ok (l := u10) a10 rfl mixed_ok (fn := Proofs.Try.f10) (show Proofs.Try.prog.funcs[10]? = some Proofs.Try.f10 by kernel_rfl) (by kernel_rfl) (ls := []) rfl (.inl rfl) trivial (pm := pm10) (by simp [c10]) (by rintro ⟨t, l, h⟩; cases h) ?_
    exact p10_0 _ _ _ hin hie h
  · exact h.elim
def pm19 : Pm := ⟨[flS, .s, .s, .i .u8, .s], .no, [.s]⟩
def u19 : List (Nat × Tr) := [(12, S12), (20, S20), (27, S27)]
theorem a19 : AllKeep Proofs.Try.prog u19 := ⟨k12, k20, k27, trivial⟩

def c19 : Cfg := { n := 50, Γ := Gam, C := ofL u19, pm := pmL [(12, pm12), (20, pm20), (27, pm27)], plan := noP, L := lpL [], unroll := nmL [], keep := kpL [] }
def S19 : Tr
  | [.agg [.int .i64 z, .ints false .u8 L], .int .i64 page, .int .i64 at', .ints false .u8 b, .int .i64 bud], none, post => post (.bool true) none
  | _, _, _ => False
theorem t19_0 (z : Int) (L : List Int) (page at' bud : Int) (b : List Int) (post : AV → Option AV → Prop) : runF c19 pm19 Proofs.Try.f19 [.agg [.int .i64 z, .ints false .u8 L], .int .i64 page, .int .i64 at', .ints false .u8 b, .int .i64 bud] none post = (((progF z L page at' b bud).z = (progF z L page at' b bud).z ∧
     (progF z L page at' b bud).l = (progF z L page at' b bud).l) ∧
     br ((progF z L page at' b bud).bud == (progF z L page at' b bud).bud)
     (post (AV.bool ((progF z L page at' b bud).e == (progF z L page at' b bud).e)) none) (post (AV.bool false) none)) := by kernel_rfl
theorem p19_0 (z : Int) (L : List Int) (page at' bud : Int) (b : List Int) (post : AV → Option AV → Prop) (hin : InRL [.agg [.int .i64 z, .ints false .u8 L], .int .i64 page, .int .i64 at', .ints false .u8 b, .int .i64 bud]) (hie : InRO none) (h : post (.bool true) none) : Ok (runF c19 pm19 Proofs.Try.f19 [.agg [.int .i64 z, .ints false .u8 L], .int .i64 page, .int .i64 at', .ints false .u8 b, .int .i64 bud] none (post)) := by
  refine ⟨?_⟩
  rw [t19_0]
  simp only [beq_self_eq_true, br_true]
  exact ⟨⟨trivial, trivial⟩, h⟩
theorem k19 : Keeps Proofs.Try.prog 19 S19 := by
  refine ⟨?_, Proofs.Try.f19, by kernel_rfl, by kernel_rfl, by kernel_rfl⟩
  intro args e post h
  unfold S19 at h
  split at h
  · refine Spec.inR fun hin hie => fun_ok' (c := c19) gam_ok (l := u19) a19 rfl mixed_ok (fn := Proofs.Try.f19) (show Proofs.Try.prog.funcs[19]? = some Proofs.Try.f19 by kernel_rfl) (by kernel_rfl) (ls := []) rfl (.inl rfl) trivial (pm := pm19) (by simp [c19]) (by rintro ⟨t, l, h⟩; cases h) ?_
    exact p19_0 _ _ _ _ _ _ _ hin hie h
  · exact h.elim
def pm21 : Pm := ⟨[flS, .s, .s], .no, [.s]⟩
def u21 : List (Nat × Tr) := [(12, S12), (30, S30), (31, S31)]
theorem a21 : AllKeep Proofs.Try.prog u21 := ⟨k12, k30, k31, trivial⟩

def c21 : Cfg := { n := 42, Γ := Gam, C := ofL u21, pm := pmL [(12, pm12), (30, pm30), (31, pm31)], plan := noP, L := lpL [], unroll := nmL [], keep := kpL [] }
def S21 : Tr
  | [.agg [.int .i64 z, .ints false .u8 L], .int .i64 page, .int .i64 bud], none, post => post (.bool true) none
  | _, _, _ => False
theorem t21_0 (z : Int) (L : List Int) (page bud : Int) (post : AV → Option AV → Prop) : runF c21 pm21 Proofs.Try.f21 [.agg [.int .i64 z, .ints false .u8 L], .int .i64 page, .int .i64 bud] none post = (((eraF z L page bud).z = (eraF z L page bud).z ∧ (eraF z L page bud).l = (eraF z L page bud).l) ∧
     br ((eraF z L page bud).bud == (eraF z L page bud).bud)
     (post (AV.bool ((eraF z L page bud).e == (eraF z L page bud).e)) none) (post (AV.bool false) none)) := by kernel_rfl
theorem p21_0 (z : Int) (L : List Int) (page bud : Int) (post : AV → Option AV → Prop) (hin : InRL [.agg [.int .i64 z, .ints false .u8 L], .int .i64 page, .int .i64 bud]) (hie : InRO none) (h : post (.bool true) none) : Ok (runF c21 pm21 Proofs.Try.f21 [.agg [.int .i64 z, .ints false .u8 L], .int .i64 page, .int .i64 bud] none (post)) := by
  refine ⟨?_⟩
  rw [t21_0]
  simp only [beq_self_eq_true, br_true]
  exact ⟨⟨trivial, trivial⟩, h⟩
theorem k21 : Keeps Proofs.Try.prog 21 S21 := by
  refine ⟨?_, Proofs.Try.f21, by kernel_rfl, by kernel_rfl, by kernel_rfl⟩
  intro args e post h
  unfold S21 at h
  split at h
  · refine Spec.inR fun hin hie => fun_ok' (c := c21) gam_ok (l := u21) a21 rfl mixed_ok (fn := Proofs.Try.f21) (show Proofs.Try.prog.funcs[21]? = some Proofs.Try.f21 by kernel_rfl) (by kernel_rfl) (ls := []) rfl (.inl rfl) trivial (pm := pm21) (by simp [c21]) (by rintro ⟨t, l, h⟩; cases h) ?_
    exact p21_0 _ _ _ _ _ hin hie h
  · exact h.elim
end Go.Proofs.Ytnioiijcmdnhaaa.V
