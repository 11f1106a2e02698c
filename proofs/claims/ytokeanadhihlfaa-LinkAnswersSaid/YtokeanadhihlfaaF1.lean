/-
  Contracts of the small functions: capacity, Mod, Count, the reference's Count, Size, rotl.
-/
import Derived.Test.YtokeanadhihlfaaProg
import Derived.Test.YtokeanadhihlfaaLaws
import Derived.WalkLawsBesides
import Derived.WalkSpells
namespace Go.Proofs.Ytokeanadhihlfaa
open Go.RowKit

theorem ret_int {k : IntKind} {a b : Int} (h : a = b) : Ending.returned (.int k a) = .returned (.int k b) := by rw [h]

def capI (f : Bool) : Int := if f then 57 else 59
theorem capacity_ok (f : Bool) (w : World) : Calls Try.prog 54 #[.bool f] w fun e w' => e = .returned (.int .i64 (capI f)) ∧ w = w' := by
  cases f
  · go_enter Try.func54, Try.ntmps54
    go_wp2
    go_ret
    exact ⟨rfl, rfl⟩
  · go_enter Try.func54, Try.ntmps54
    go_wp2
    go_ret
    exact ⟨rfl, rfl⟩

/-- The number of packets of a message of n bytes. -/
def countI (n : Int) : Int := if n < 0 ∨ 4096 < n then -1 else if n ≤ 57 then 1 else 1 + (n - 57 + 59 - 1) / 59
theorem count_ok (n : Int) (w : World) : Calls Try.prog 19 #[.int .i64 n] w fun e w' => e = .returned (.int .i64 (countI n)) ∧ w = w' := by
  by_cases h0 : n < 0
  · have hc : countI n = -1 := by unfold countI; rw [if_pos (.inl h0)]
    rw [hc]
    go_enter Try.func19, Try.ntmps19
    go_wp2
    go_ret
    exact ⟨rfl, rfl⟩
  · by_cases h1 : 4096 < n
    · have hc : countI n = -1 := by unfold countI; rw [if_pos (.inr h1)]
      rw [hc]
      go_enter Try.func19, Try.ntmps19
      go_wp2
      go_ret
      exact ⟨rfl, rfl⟩
    · by_cases h2 : n ≤ 57
      · have hc : countI n = 1 := by unfold countI; rw [if_neg (by omega), if_pos h2]
        rw [hc]
        go_enter Try.func19, Try.ntmps19
        go_wp2
        go_ret
        exact ⟨rfl, rfl⟩
      · have hc : countI n = 1 + (n - 57 + 59 - 1) / 59 := by unfold countI; rw [if_neg (by omega), if_neg h2]
        rw [hc]
        go_enter Try.func19, Try.ntmps19
        go_wp2
        go_ret
        exact ⟨rfl, rfl⟩

theorem refcount_ok (n : Int) (w : World) : Calls Try.prog 20 #[.int .i64 n] w fun e w' => e = .returned (.int .i64 (countI n)) ∧ w = w' := by
  by_cases h0 : n < 0
  · have hc : countI n = -1 := by unfold countI; rw [if_pos (.inl h0)]
    rw [hc]
    go_enter Try.func20, Try.ntmps20
    go_wp2
    go_ret
    exact ⟨rfl, rfl⟩
  · by_cases h1 : 4096 < n
    · have hc : countI n = -1 := by unfold countI; rw [if_pos (.inr h1)]
      rw [hc]
      go_enter Try.func20, Try.ntmps20
      go_wp2
      go_ret
      exact ⟨rfl, rfl⟩
    · have hd0 : decide (n < 0) = false := by simpa using h0
      have hd1 : decide (4096 < n) = false := by simpa using h1
      go_enter Try.func20, Try.ntmps20
      go_wp2
      go_loop [3, 4] (fun k l => ∃ j : Nat, k = .int .i64 (1 + (j : Int)) ∧ l = .int .i64 (n - 57 - 59 * (j : Int)) ∧ (j = 0 ∨ 0 < n - 57 - 59 * ((j : Int) - 1))) (fun _ l => (intOf l).toNat)
      case atStart => exact ⟨0, rfl, by simp, .inl rfl⟩
      case round =>
        obtain ⟨j, rfl, rfl, hj⟩ := hrel
        by_cases hlt : 0 < n - 57 - 59 * (j : Int)
        · go_wp2
          go_round
          case rel => exact ⟨j + 1, by go_num, by go_num, .inr (by push_cast; omega)⟩
          case measure => simp [intOf]; omega
        · go_wp2
          go_ret
          refine ⟨ret_int ?_, rfl⟩
          unfold countI
          rw [if_neg (by omega)]
          by_cases h2 : n ≤ 57
          · rw [if_pos h2]; omega
          · rw [if_neg h2]; omega

/-- Some number from 0 to n - 1. -/
def SomeMod (n : Int) (w : World) (e : Ending) (w' : World) : Prop := ∃ r : Int, 0 ≤ r ∧ r < n ∧ e = .returned (.int .i64 r) ∧ w = w'
theorem mod_num (v n : Int) (h0 : 0 < n) (h1 : n ≤ 1000000) : 0 ≤ wrap64 ((IntKind.u64.wrap v).tmod n) ∧ wrap64 ((IntKind.u64.wrap v).tmod n) < n := by
  have hv : 0 ≤ IntKind.u64.wrap v := by rw [IntKind.wrap_u64]; omega
  generalize IntKind.u64.wrap v = x at *
  have e : x.tmod n = x % n := Int.tmod_eq_emod_of_nonneg hv
  have hb := Int.emod_nonneg x (show n ≠ 0 by omega)
  have hb' := Int.emod_lt_of_pos x h0
  rw [e, IntWalk.wrap64_in _ ⟨by omega, by omega⟩]
  exact ⟨hb, hb'⟩
theorem mod_ok (v n : Int) (w : World) (h0 : 0 < n) (h1 : n ≤ 1000000) : Calls Try.prog 17 #[.int .i64 v, .int .i64 n] w (SomeMod n w) := by
  have hm := mod_num v n h0 h1
  have H := Lib.hid hm
  clear hm
  go_enter Try.func17, Try.ntmps17
  go_wp2
  go_ret
  exact ⟨_, H.out.1, H.out.2, rfl, rfl⟩

def SomeSize (w : World) (e : Ending) (w' : World) : Prop := ∃ r : Int, 0 ≤ r ∧ r ≤ 4097 ∧ e = .returned (.int .i64 r) ∧ Below w.heap.size w w'
def sizes : List Int := [0, 1, 8, 56, 57, 58, 115, 116, 117, 175, 176, 300, 4095, 4096, 4097, 60]
theorem sizes_at (k : Nat) (h : k < 16) : ∃ x : Int, 0 ≤ x ∧ x ≤ 4097 ∧ (sizes.map (Value.int .i64))[k]'(by simpa [sizes] using h) = .int .i64 x := by
  have hk : k < sizes.length := by simpa [sizes] using h
  have hall : ∀ x ∈ sizes, 0 ≤ x ∧ x ≤ 4097 := by decide
  exact ⟨sizes[k], (hall _ (List.getElem_mem hk)).1, (hall _ (List.getElem_mem hk)).2, List.getElem_map ..⟩
theorem size_ok (v : Int) (w : World) : Calls Try.prog 18 #[.int .i64 v] w (SomeSize w) := by
  go_enter Try.func18, Try.ntmps18
  go_wp2_with (go_at_call 17; refine (mod_ok _ _ _ (by omega) (by omega)).mono ?_; rintro e w' ⟨r, hr0, hr1, rfl, rfl⟩)
  go_ret
  obtain ⟨x, hx0, hx1, hx⟩ := sizes_at r.toNat (by omega)
  exact ⟨x, hx0, hx1, congrArg Ending.returned hx, (Below.refl _ _).alloc (Nat.le_refl _) _⟩

def SomeWord (w : World) (e : Ending) (w' : World) : Prop := ∃ x : Int, e = .returned (.int .u64 x) ∧ w = w'
theorem rotl_ok (x n : Int) (w : World) (h0 : 0 ≤ n) (h1 : n ≤ 64) : Calls Try.prog 83 #[.int .u64 x, .int .u64 n] w (SomeWord w) := by
  go_enter Try.func83, Try.ntmps83
  go_wp2
  go_ret
  exact ⟨_, rfl, rfl⟩
end Go.Proofs.Ytokeanadhihlfaa
