/-
  bytes.Repeat of one byte gives that byte, so many times.
-/
import Derived.Test.YtnioiijcmdnhaaaS5
import Derived.Test.YtnioiijcmdnhaaaProg
import Derived.WalkLawsBesides
import Derived.WalkSpells
import Derived.Laws.Externs
import Derived.Lib.MakeNoZero
import Derived.Lib.SlBuf
set_option linter.all false
namespace Go.Proofs.Ytnioiijcmdnhaaa
open Go.RowKit V

theorem mul64_ok (n : Int) (w : World) (h0 : 0 ≤ n) (h1 : n < 4294967296) : Calls Try.prog 37 #[.int .u64 1, .int .u64 n] w fun e w' => e = .returned (.tuple #[.int .u64 0, .int .u64 n]) ∧ Fr (fun _ => False) w w' := by
  have hs := V.k37.spec [.int .u64 1, .int .u64 n] none (fun r e' => r = .tup [.int .u64 0, .int .u64 n] ∧ e' = none) (chk_dec ⟨rfl, h0, h1⟩ ⟨rfl, rfl⟩)
  have := hs w (fun _ => False) none [.int .u64 1, .int .u64 n] (fun _ h => h.elim) ⟨_, _, rfl, ⟨rfl, by decide⟩, _, _, rfl, ⟨rfl, by rw [in_u64]; omega⟩, rfl⟩ rfl
  refine this.mono ?_
  rintro e w' ⟨r, e', v, S', m', ⟨rfl, rfl⟩, rfl, hv, _, _, _, _, _, hfr⟩
  refine ⟨?_, hfr.weak fun b ⟨mb, hb, _⟩ => by cases hb⟩
  simp only [RepV, RepVL, RepV0, Rep] at hv
  obtain ⟨vs, rfl, v1, vs1, rfl, ⟨q1, _⟩, v2, vs2, rfl, ⟨q2, _⟩, rfl⟩ := hv
  cases q1
  cases q2
  rfl
set_option maxRecDepth 100000 in
theorem mul_ok (n : Int) (w : World) (h0 : 0 ≤ n) (h1 : n < 4294967296) : Calls Try.prog 32 #[.int .u64 1, .int .u64 n] w fun e w' => e = .returned (.tuple #[.int .u64 0, .int .u64 n]) ∧ Fr (fun _ => False) w w' := by
  go_enter Try.func32, Try.ntmps32
  go_wp2_with fail
  refine (mul64_ok n _ h0 h1).mono ?_
  rintro e w1 ⟨rfl, hfr⟩
  go_wp2_with fail
  go_ret2
  exact ⟨rfl, hfr⟩
end Go.Proofs.Ytnioiijcmdnhaaa
