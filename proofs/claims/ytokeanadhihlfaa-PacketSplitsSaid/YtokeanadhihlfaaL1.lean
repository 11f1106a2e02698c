/-
  The walk of the law PacketCounts.
-/
import Derived.Test.YtokeanadhihlfaaF11
namespace Go.Proofs.Ytokeanadhihlfaa
open Go.RowKit

theorem three_at (n r s : Int) (k : Nat) (h : k < 3) : ∃ x : Int, (#[Value.int .i64 n, .int .i64 r, .int .i64 s] : Array Value)[k]? = some (.int .i64 x) := by
  match k, h with
  | 0, _ => exact ⟨n, rfl⟩
  | 1, _ => exact ⟨r, rfl⟩
  | 2, _ => exact ⟨s, rfl⟩

set_option maxRecDepth 100000 in
set_option maxHeartbeats 4000000 in
theorem counts_law (n : Int) (w : World) : Calls Try.prog 3 #[.int .i64 n] w (LawTrue w) := by
  go_enter Try.func3, Try.ntmps3
  go_wp2_with (first | (go_at_call 17; refine (mod_ok _ _ _ (by omega) (by omega)).mono ?_; rintro e w' ⟨r, hr0, hr1, rfl, rfl⟩) | (go_at_call 18; refine (size_ok _ _).mono ?_; rintro e w1 ⟨s, hs0, hs1, rfl, hb1⟩))
  generalize hW : World.alloc w1 _ = W
  obtain ⟨hB, b1⟩ := boxes1 hW
  clear hW
  have hB2 := below_go hb1 hb1.size hB
  go_loop [12] (fun i => ∃ k : Nat, k ≤ 3 ∧ i = .int .i64 k) (fun i => 3 - (intOf i).toNat)
  case atStart => exact ⟨0, by omega, rfl⟩
  case round =>
    obtain ⟨k, hk, rfl⟩ := hrel
    by_cases hlt : k < 3
    · obtain ⟨x, hx⟩ := three_at n r s k hlt
      have hc : W.cell? ⟨w1.heap.size, k, none⟩ = some (.int .i64 x) := (b1.cell k).trans hx
      clear hx
      go_wp2_with (first | (go_at_call 19; refine (count_ok _ _).mono ?_; rintro e w' ⟨rfl, rfl⟩) | (go_at_call 20; refine (refcount_ok _ _).mono ?_; rintro e w' ⟨rfl, rfl⟩))
      go_round
      case rel => exact ⟨k + 1, by omega, by go_num⟩
      case measure => simp [intOf]; omega
    · go_wp2_with (go_at_call 21; refine (awake_ok _).mono ?_; rintro e w3 ⟨rfl, hb3⟩)
      go_ret
      exact ⟨rfl, below_go hB2 (by have := hB2.size; omega) hb3⟩
end Go.Proofs.Ytokeanadhihlfaa
