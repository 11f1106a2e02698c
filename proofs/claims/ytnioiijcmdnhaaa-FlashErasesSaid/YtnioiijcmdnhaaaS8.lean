import Derived.Test.YtnioiijcmdnhaaaPlans
import Derived.Test.YtnioiijcmdnhaaaVNum
import Derived.Test.YtnioiijcmdnhaaaProg
import Derived.Test.YtnioiijcmdnhaaaS0
import Derived.Test.YtnioiijcmdnhaaaS1
import Derived.Test.YtnioiijcmdnhaaaS2
import Derived.Test.YtnioiijcmdnhaaaS3
import Derived.Test.YtnioiijcmdnhaaaS4
import Derived.Test.YtnioiijcmdnhaaaR4
import Derived.Test.YtnioiijcmdnhaaaS6
import Derived.Test.YtnioiijcmdnhaaaS7
import Derived.KernelRfl
set_option linter.all false
set_option maxHeartbeats 1000000
namespace Go.Proofs.Ytnioiijcmdnhaaa.V
open Go
def pm4 : Pm := ⟨[.s, .i .i64, .s, .s, .s, .s], .no, [.s]⟩
def u4 : List (Nat × Tr) := [(9, S9), (15, S15), (16, S16), (17, S17), (18, S18)]
theorem a4 : AllKeep Proofs.Try.prog u4 := ⟨k9, k15, k16, k17, k18, trivial⟩

def c4 : Cfg := { n := 89, Γ := Gam, C := ofL u4, pm := pmL [(9, pm9), (15, pm15), (16, pm16), (17, pm17), (18, pm18)], plan := noP, L := lpL [], unroll := nmL [], keep := kpL [] }
def S4 : Tr
  | [.int .i64 n, .ints false .i64 l, .int .i64 a, .int .i64 b, .int .i64 c, .int .i64 d], none, post => post (.bool true) none
  | _, _, _ => False
theorem t4_0 (n a b c d : Int) (l : List Int) (post : AV → Option AV → Prop) : runF c4 pm4 Proofs.Try.f4 [.int .i64 n, .ints false .i64 l, .int .i64 a, .int .i64 b, .int .i64 c, .int .i64 d] none post = (∀ (z : Int) (L : List Int),
     valE z L.length = (0 : Int) →
     chk (decide ((0 : Nat) < L.length))
     (∀ (z' : Int) (L' : List Int),
     L'.length ≤ L.length →
     br
     (areaE z' L'.length (IntKind.i64.wrap (iand IntKind.i64 a (7 : Int) - (1 : Int)))
     (IntKind.i64.wrap (iand IntKind.i64 b (1023 : Int) - (5 : Int)))
     (IntKind.i64.wrap (iand IntKind.i64 c (1023 : Int) - (5 : Int))) ==
     areaE z' L'.length (IntKind.i64.wrap (iand IntKind.i64 a (7 : Int) - (1 : Int)))
     (IntKind.i64.wrap (iand IntKind.i64 b (1023 : Int) - (5 : Int)))
     (IntKind.i64.wrap (iand IntKind.i64 c (1023 : Int) - (5 : Int))))
     (br
     (strEq
     (rdL z' L' (IntKind.i64.wrap (iand IntKind.i64 a (7 : Int) - (1 : Int)))
     (IntKind.i64.wrap (iand IntKind.i64 b (1023 : Int) - (5 : Int)))
     (IntKind.i64.wrap (iand IntKind.i64 c (1023 : Int) - (5 : Int))))
     (rdL z' L' (IntKind.i64.wrap (iand IntKind.i64 a (7 : Int) - (1 : Int)))
     (IntKind.i64.wrap (iand IntKind.i64 b (1023 : Int) - (5 : Int)))
     (IntKind.i64.wrap (iand IntKind.i64 c (1023 : Int) - (5 : Int)))))
     (br (areaE z' L'.length a b c == areaE z' L'.length a b c) (post (AV.bool true) none)
     (post (AV.bool false) none))
     (post (AV.bool false) none))
     (post (AV.bool false) none))) := by kernel_rfl
theorem p4_0 (n a b c d : Int) (l : List Int) (post : AV → Option AV → Prop) (hin : InRL [.int .i64 n, .ints false .i64 l, .int .i64 a, .int .i64 b, .int .i64 c, .int .i64 d]) (hie : InRO none) (h : post (.bool true) none) : Ok (runF c4 pm4 Proofs.Try.f4 [.int .i64 n, .ints false .i64 l, .int .i64 a, .int .i64 b, .int .i64 c, .int .i64 d] none (post)) := by
  refine ⟨?_⟩
  rw [t4_0]
  intro z L hv
  obtain ⟨_, _, v3, _⟩ := val_ok hv
  refine chk_dec v3 (fun z' L' _ => ?_)
  simp only [beq_self_eq_true, strEq_refl, br_true]
  exact h
theorem k4 : Keeps Proofs.Try.prog 4 S4 := by
  refine ⟨?_, Proofs.Try.f4, by kernel_rfl, by kernel_rfl, by kernel_rfl⟩
  intro args e post h
  unfold S4 at h
  split at h
  · refine Spec.inR fun hin hie => fun_ok' (c := c4) gam_ok (l := u4) a4 rfl mixed_ok (fn := Proofs.Try.f4) (show Proofs.Try.prog.funcs[4]? = some Proofs.Try.f4 by kernel_rfl) (by kernel_rfl) (ls := []) rfl (.inl rfl) trivial (pm := pm4) (by simp [c4]) (by rintro ⟨t, l, h⟩; cases h) ?_
    exact p4_0 _ _ _ _ _ _ _ hin hie h
  · exact h.elim
def pm5 : Pm := ⟨[.s, .i .i64, .s, .s, .i .u8, .s, .s], .no, [.s]⟩
def u5 : List (Nat × Tr) := [(9, S9), (15, S15), (16, S16), (19, S19)]
theorem a5 : AllKeep Proofs.Try.prog u5 := ⟨k9, k15, k16, k19, trivial⟩

def c5 : Cfg := { n := 46, Γ := Gam, C := ofL u5, pm := pmL [(9, pm9), (15, pm15), (16, pm16), (19, pm19)], plan := noP, L := lpL [], unroll := nmL [], keep := kpL [] }
def S5 : Tr
  | [.int .i64 n, .ints false .i64 l, .int .i64 a, .int .i64 b, .ints false .u8 q, .int .i64 c, .int .i64 d], none, post => post (.bool true) none
  | _, _, _ => False
theorem t5_0 (n a b c d : Int) (l q : List Int) (post : AV → Option AV → Prop) : runF c5 pm5 Proofs.Try.f5 [.int .i64 n, .ints false .i64 l, .int .i64 a, .int .i64 b, .ints false .u8 q, .int .i64 c, .int .i64 d] none post = (br (decide (@Nat.cast Int _ q.length > (700 : Int))) (post (AV.bool true) none)
     (∀ (z : Int) (L : List Int),
     valE z L.length = (0 : Int) →
     chk (decide ((0 : Nat) < L.length))
     (∀ (z' : Int) (L' : List Int), L'.length ≤ L.length → post (AV.bool true) none))) := by kernel_rfl
theorem p5_0 (n a b c d : Int) (l q : List Int) (post : AV → Option AV → Prop) (hin : InRL [.int .i64 n, .ints false .i64 l, .int .i64 a, .int .i64 b, .ints false .u8 q, .int .i64 c, .int .i64 d]) (hie : InRO none) (h : post (.bool true) none) : Ok (runF c5 pm5 Proofs.Try.f5 [.int .i64 n, .ints false .i64 l, .int .i64 a, .int .i64 b, .ints false .u8 q, .int .i64 c, .int .i64 d] none (post)) := by
  refine ⟨?_⟩
  rw [t5_0]
  refine br_dec (fun _ => h) (fun _ => ?_)
  intro z L hv
  obtain ⟨_, _, v3, _⟩ := val_ok hv
  exact chk_dec v3 (fun z' L' _ => h)
theorem k5 : Keeps Proofs.Try.prog 5 S5 := by
  refine ⟨?_, Proofs.Try.f5, by kernel_rfl, by kernel_rfl, by kernel_rfl⟩
  intro args e post h
  unfold S5 at h
  split at h
  · refine Spec.inR fun hin hie => fun_ok' (c := c5) gam_ok (l := u5) a5 rfl mixed_ok (fn := Proofs.Try.f5) (show Proofs.Try.prog.funcs[5]? = some Proofs.Try.f5 by kernel_rfl) (by kernel_rfl) (ls := []) rfl (.inl rfl) trivial (pm := pm5) (by simp [c5]) (by rintro ⟨t, l, h⟩; cases h) ?_
    exact p5_0 _ _ _ _ _ _ _ _ hin hie h
  · exact h.elim
def pm8 : Pm := ⟨[.s, .i .i64, .s, .s, .s], .no, [.s]⟩
def u8 : List (Nat × Tr) := [(9, S9), (15, S15), (16, S16), (21, S21)]
theorem a8 : AllKeep Proofs.Try.prog u8 := ⟨k9, k15, k16, k21, trivial⟩

def c8 : Cfg := { n := 33, Γ := Gam, C := ofL u8, pm := pmL [(9, pm9), (15, pm15), (16, pm16), (21, pm21)], plan := noP, L := lpL [], unroll := nmL [], keep := kpL [] }
def S8 : Tr
  | [.int .i64 n, .ints false .i64 l, .int .i64 a, .int .i64 b, .int .i64 c], none, post => post (.bool true) none
  | _, _, _ => False
theorem t8_0 (n a b c : Int) (l : List Int) (post : AV → Option AV → Prop) : runF c8 pm8 Proofs.Try.f8 [.int .i64 n, .ints false .i64 l, .int .i64 a, .int .i64 b, .int .i64 c] none post = (∀ (z : Int) (L : List Int),
     valE z L.length = (0 : Int) →
     chk (decide ((0 : Nat) < L.length)) (∀ (z' : Int) (L' : List Int), L'.length ≤ L.length → post (AV.bool true) none)) := by kernel_rfl
theorem p8_0 (n a b c : Int) (l : List Int) (post : AV → Option AV → Prop) (hin : InRL [.int .i64 n, .ints false .i64 l, .int .i64 a, .int .i64 b, .int .i64 c]) (hie : InRO none) (h : post (.bool true) none) : Ok (runF c8 pm8 Proofs.Try.f8 [.int .i64 n, .ints false .i64 l, .int .i64 a, .int .i64 b, .int .i64 c] none (post)) := by
  refine ⟨?_⟩
  rw [t8_0]
  intro z L hv
  obtain ⟨_, _, v3, _⟩ := val_ok hv
  exact chk_dec v3 (fun z' L' _ => h)
theorem k8 : Keeps Proofs.Try.prog 8 S8 := by
  refine ⟨?_, Proofs.Try.f8, by kernel_rfl, by kernel_rfl, by kernel_rfl⟩
  intro args e post h
  unfold S8 at h
  split at h
  · refine Spec.inR fun hin hie => fun_ok' (c := c8) gam_ok (l := u8) a8 rfl mixed_ok (fn := Proofs.Try.f8) (show Proofs.Try.prog.funcs[8]? = some Proofs.Try.f8 by kernel_rfl) (by kernel_rfl) (ls := []) rfl (.inl rfl) trivial (pm := pm8) (by simp [c8]) (by rintro ⟨t, l, h⟩; cases h) ?_
    exact p8_0 _ _ _ _ _ _ hin hie h
  · exact h.elim
end Go.Proofs.Ytnioiijcmdnhaaa.V
