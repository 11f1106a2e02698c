/-
  bytes.Repeat of one byte, as a promise.
-/
import Derived.Test.YtnioiijcmdnhaaaR3
set_option linter.all false
namespace Go.Proofs.Ytnioiijcmdnhaaa.V
open Go Go.RowKit

theorem rep_spec {x n : Int} {post : AV → Option AV → Prop} (h1 : 1 ≤ n) (h2 : n ≤ 65536) (hp : post (.ints false .u8 (List.replicate n.toNat x)) none) : Spec Proofs.Try.prog 23 [.ints false .u8 [x], .int .i64 n] none post := by
  intro w S m vs hS hv he
  simp only [RepVL, RepV0, Rep] at hv
  obtain ⟨v1, vs1, rfl, ⟨A, c, q1, hSI, _⟩, v2, vs2, rfl, ⟨q2, _⟩, rfl⟩ := hv
  cases q1
  cases q2
  obtain ⟨k, rfl⟩ : ∃ k : Nat, n = k := ⟨n.toNat, by omega⟩
  obtain ⟨b, off, rfl, hb, hcl⟩ := hSI.row (by simp)
  have hcell : w.cell? ⟨b, off, none⟩ = some (.int .u8 x) := hcl 0 (.int .u8 x) rfl
  have hc : Calls Proofs.Try.prog 23 #[.slice (some ⟨b, off, none⟩) 1 c, .int .i64 (k : Int)] w fun e w' => ∃ w1, e = .returned (.slice (some ⟨w1.heap.size, 0, none⟩) k k) ∧ Fr (fun _ => False) w w1 ∧ RB w1 w' w1.heap.size k k x := by
    by_cases hk : k ≤ 8192
    · exact repeat_ok b off c k x w hcell (by omega) hk
    · exact repeat_big b off c k x w hcell (by omega) (by omega) (by omega)
  have hm : m = none := he
  subst hm
  refine hc.mono ?_
  rintro e w' ⟨w1, rfl, hfr, hR⟩
  have hsz : w1.heap.size < w'.heap.size := World.block_lt_of_cell? w' _ (hR.holds 0 (by omega))
  refine ⟨_, _, _, fun b => S b ∨ b = w1.heap.size, none, hp, rfl, ?_, rfl, fun _ h => .inl h, ?_, ?_, ?_, ?_⟩
  · simp only [RepV, RepV0, Rep]
    refine ⟨some ⟨w1.heap.size, 0, none⟩, k, by simp, ⟨by simp, by unfold maxLen; omega, ?_, ?_⟩, fun h => by cases h⟩
    · intro z hz
      rw [List.eq_of_mem_replicate hz]
      exact hSI.rng x (by simp)
    · intro _
      refine ⟨_, 0, rfl, .inr rfl, fun j v hj => ?_⟩
      rw [List.map_replicate] at hj
      obtain ⟨hlt, hv⟩ := List.getElem?_eq_some_iff.1 hj
      rw [List.length_replicate] at hlt
      rw [List.getElem_replicate] at hv
      subst hv
      rw [Nat.zero_add]
      exact hR.holds j (by omega)
  · rintro b' (hb' | rfl)
    · have h3 := hS b' hb'
      have h4 := hfr.size
      exact ⟨by omega, .inl hb'⟩
    · exact ⟨hsz, .inr (.inl hfr.size)⟩
  · intro g hh
    obtain ⟨_, e1, _⟩ := hh
    cases e1
  · intro hh
    obtain ⟨t, l, h⟩ := hh
    cases h
  · have h4 := hfr.size
    exact ⟨hR.below.os.trans hfr.os, hR.below.tape.trans hfr.tape, hR.below.output.trans hfr.output, by omega, fun k' hk' _ => (hR.below.block k' (by omega)).trans (hfr.block k' hk' (fun h => h))⟩
def pm23 : Pm := ⟨[.i .u8, .s], .no, [.i .u8]⟩
def S23 : Tr
  | [.ints false .u8 [x], .int .i64 n], none, post => chk (decide (1 ≤ n ∧ n ≤ 65536)) (post (.ints false .u8 (List.replicate n.toNat x)) none)
  | _, _, _ => False
theorem k23 : Keeps Proofs.Try.prog 23 S23 := by
  refine ⟨?_, Proofs.Try.f23, by kernel_rfl, by kernel_rfl, by kernel_rfl⟩
  intro args e post h
  unfold S23 at h
  split at h
  · obtain ⟨h1, h2⟩ := chk_iff.1 h
    obtain ⟨h3, h4⟩ := of_decide_eq_true h1
    exact rep_spec h3 h4 h2
  · exact h.elim
end Go.Proofs.Ytnioiijcmdnhaaa.V
