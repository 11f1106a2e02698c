/-
  Contracts of the hash: Sum, Mac.
-/
import Derived.Test.YtokeanadhihlfaaF2
import Derived.LoopTactic
namespace Go.Proofs.Ytokeanadhihlfaa
open Go.RowKit

/-- Some word; all that stood before the call stands. -/
def SomeWordB (w : World) (e : Ending) (w' : World) : Prop := ∃ x : Int, e = .returned (.int .u64 x) ∧ Below w.heap.size w w'

theorem SB.byte {w : World} {b off : Nat} {l : List UInt8} (hc : ∀ j v, (l.map BV)[j]? = some v → w.cell? ⟨b, off + j, none⟩ = some v) (q : Int) (h0 : 0 ≤ q) (h1 : q < l.length) :
    w.cell? ⟨b, off + q.toNat, none⟩ = some (.int .u8 ((l.getD q.toNat 0).toNat : Int)) := by
  have hq : q.toNat < l.length := by omega
  refine hc q.toNat _ ?_
  simp [BV, List.getElem?_eq_getElem hq]

def SumIn (w : World) (g : Nat) (i : Value) (wr : World) (n : Nat) : Prop :=
  ∃ (k : Int) (x y z u : Int), i = .int .i64 k ∧ 0 ≤ k ∧ k ≤ n + 8 ∧ Blk wr g 109 #[.int .u64 x, .int .u64 y, .int .u64 z, .int .u64 u] ∧ Below w.heap.size w wr
set_option maxRecDepth 100000 in
set_option maxHeartbeats 4000000 in
theorem sum_ok (x y : Int) (A : Option Addr) (c : Nat) (l : List UInt8) (w : World) (hs : SB w (Lt w.heap.size) A c l) (hl : l.length ≤ 1000000) :
    Calls Try.prog 81 #[.int .u64 x, .int .u64 y, .slice A l.length c] w (SomeWordB w) := by
  go_enter Try.func81, Try.ntmps81
  go_wp2_with fail
  generalize hW : World.alloc w _ = W
  obtain ⟨hB, b1⟩ := boxes1 hW
  clear hW
  go_loopw [8] (fun i wr => SumIn w w.heap.size i wr l.length) (fun i _ => l.length + 8 - (intOf i).toNat)
  case atStart => exact ⟨0, _, _, _, _, rfl, by omega, by omega, b1, hB⟩
  case round =>
    obtain ⟨k, x1, y1, z1, u1, rfl, hk0, hk1, b1, hB⟩ := hrel
    obtain ⟨c1, f1, l1⟩ := b1.facts
    by_cases hle : k ≤ l.length
    · go_wp2_with fail
      go_loop [9, 10] (fun m j => ∃ p q : Int, m = .int .u64 p ∧ j = .int .i64 q ∧ -1 ≤ q ∧ q ≤ 7) (fun _ j => (intOf j + 1).toNat)
      case atStart => exact ⟨_, _, rfl, rfl, by omega, by omega⟩
      case round =>
        obtain ⟨p, q, rfl, rfl, hq0, hq1⟩ := hrel
        by_cases hq : 0 ≤ q
        · by_cases hlt : k + q < l.length
          · obtain ⟨b, off, rfl, hb, hc⟩ := hs.row (by intro e; simp at e; subst e; simp at hlt; omega)
            have hcell := SB.byte (w := wr) (fun j v hv => (hB.cell (p := ⟨b, off + j, none⟩) hb).trans (hc j v hv)) (k + q) (by omega) hlt
            have h0 : 0 ≤ k + q := by omega
            clear hc
            go_wp2
            all_goals
              go_round
              case rel => exact ⟨_, q - 1, rfl, rfl, by omega, by omega⟩
              case measure => simp [intOf]; omega
          · by_cases h7 : q = 7
            · subst h7
              go_wp2
              go_round
              case rel => exact ⟨_, 6, rfl, rfl, by omega, by omega⟩
              case measure => simp [intOf]
            · have h7' : (q == 7) = false := by simpa using h7
              go_wp2
              go_round
              case rel => exact ⟨_, q - 1, rfl, rfl, by omega, by omega⟩
              case measure => simp [intOf]; omega
        · go_wp2_with (first | (go_at_call 82; refine (round_ok _ _ _ _ _).mono ?_; rintro e W1 ⟨x2, y2, z2, u2, rfl, hb⟩; have hN := below_go hB (by omega) hb; have b1' := b1.below hb; clear hB b1 c1 f1 l1; have hB := hN; have b1 := b1'; clear hN b1' hb; obtain ⟨c1, f1, l1⟩ := b1.facts) | (refine wpl_store rfl 86 _ _ rfl (v := .int .u64 _) rfl rfl b1 (by kernel_rfl) (by simp [Value.cells]) rfl ?_; intro W1 b1' hg'; have hN := hB.grown hg' (by have := b1.lt; omega) (by simp); clear hB b1 c1 f1 l1; have hB := hN; have b1 := b1'; clear hN b1' hg'; simp [splice, Value.cells] at b1; obtain ⟨c1, f1, l1⟩ := b1.facts) | (refine wpl_store rfl 109 _ _ rfl (v := .agg _) rfl rfl b1 (by kernel_rfl) (by simp [Value.cells]) rfl ?_; intro W1 b1' hg'; have hN := hB.grown hg' (by have := b1.lt; omega) (by simp); clear hB b1 c1 f1 l1; have hB := hN; have b1 := b1'; clear hN b1' hg'; simp [splice, Value.cells] at b1; obtain ⟨c1, f1, l1⟩ := b1.facts))
          go_roundw
          case rel => exact ⟨k + 8, _, _, _, _, rfl, by omega, by omega, b1, hB⟩
          case measure => simp [intOf]; omega
    · go_wp2_with (first | (go_at_call 82; refine (round_ok _ _ _ _ _).mono ?_; rintro e W1 ⟨x2, y2, z2, u2, rfl, hb⟩; have hN := below_go hB (by omega) hb; have b1' := b1.below hb; clear hB b1 c1 f1 l1; have hB := hN; have b1 := b1'; clear hN b1' hb; obtain ⟨c1, f1, l1⟩ := b1.facts) | (refine wpl_store rfl 86 _ _ rfl (v := .int .u64 _) rfl rfl b1 (by kernel_rfl) (by simp [Value.cells]) rfl ?_; intro W1 b1' hg'; have hN := hB.grown hg' (by have := b1.lt; omega) (by simp); clear hB b1 c1 f1 l1; have hB := hN; have b1 := b1'; clear hN b1' hg'; simp [splice, Value.cells] at b1; obtain ⟨c1, f1, l1⟩ := b1.facts) | (refine wpl_store rfl 109 _ _ rfl (v := .agg _) rfl rfl b1 (by kernel_rfl) (by simp [Value.cells]) rfl ?_; intro W1 b1' hg'; have hN := hB.grown hg' (by have := b1.lt; omega) (by simp); clear hB b1 c1 f1 l1; have hB := hN; have b1 := b1'; clear hN b1' hg'; simp [splice, Value.cells] at b1; obtain ⟨c1, f1, l1⟩ := b1.facts))
      go_ret
      exact ⟨_, rfl, hB⟩
end Go.Proofs.Ytokeanadhihlfaa
