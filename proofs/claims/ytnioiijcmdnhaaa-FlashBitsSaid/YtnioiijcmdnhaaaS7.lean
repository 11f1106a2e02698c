import Derived.Test.YtnioiijcmdnhaaaPlans
import Derived.Test.YtnioiijcmdnhaaaVNum
import Derived.Test.YtnioiijcmdnhaaaProg
import Derived.Test.YtnioiijcmdnhaaaS0
import Derived.Test.YtnioiijcmdnhaaaS1
import Derived.Test.YtnioiijcmdnhaaaS2
import Derived.Test.YtnioiijcmdnhaaaS3
import Derived.Test.YtnioiijcmdnhaaaS4
import Derived.Test.YtnioiijcmdnhaaaR4
import Derived.Test.YtnioiijcmdnhaaaS6
import Derived.KernelRfl
set_option linter.all false
set_option maxHeartbeats 1000000
namespace Go.Proofs.Ytnioiijcmdnhaaa.V
open Go
def pm9 : Pm := ⟨[], .no, [.s]⟩
def u9 : List (Nat × Tr) := [(10, S10), (17, S17), (20, S20)]
theorem a9 : AllKeep Proofs.Try.prog u9 := ⟨k10, k17, k20, trivial⟩

def c9 : Cfg := { n := 63, Γ := Gam, C := ofL u9, pm := pmL [(10, pm10), (17, pm17), (20, pm20)], plan := noP, L := lpL [], unroll := nmL [], keep := kpL [] }
def S9 : Tr
  | [], none, post => post (.bool true) none
  | _, _, _ => False
theorem t9_0  (post : AV → Option AV → Prop) : runF c9 pm9 Proofs.Try.f9 [] none post = (post (AV.bool true) none) := by kernel_rfl
theorem p9_0  (post : AV → Option AV → Prop) (hin : InRL []) (hie : InRO none) (h : post (.bool true) none) : Ok (runF c9 pm9 Proofs.Try.f9 [] none (post)) := by
  refine ⟨?_⟩
  rw [t9_0]
  exact h
theorem k9 : Keeps Proofs.Try.prog 9 S9 := by
  refine ⟨?_, Proofs.Try.f9, by kernel_rfl, by kernel_rfl, by kernel_rfl⟩
  intro args e post h
  unfold S9 at h
  split at h
  · refine Spec.inR fun hin hie => fun_ok' (c := c9) gam_ok (l := u9) a9 rfl mixed_ok (fn := Proofs.Try.f9) (show Proofs.Try.prog.funcs[9]? = some Proofs.Try.f9 by kernel_rfl) (by kernel_rfl) (ls := []) rfl (.inl rfl) trivial (pm := pm9) (by simp [c9]) (by rintro ⟨t, l, h⟩; cases h) ?_
    exact p9_0  _ hin hie h
  · exact h.elim
end Go.Proofs.Ytnioiijcmdnhaaa.V
