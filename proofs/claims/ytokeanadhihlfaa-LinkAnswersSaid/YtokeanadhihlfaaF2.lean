/-
  Contracts of the hash: round.
-/
import Derived.Test.YtokeanadhihlfaaF1
import Derived.StillTactics
namespace Go.Proofs.Ytokeanadhihlfaa
open Go.RowKit

def SomeFour (w : World) (e : Ending) (w' : World) : Prop := ∃ x y z u : Int, e = .returned (.agg #[.int .u64 x, .int .u64 y, .int .u64 z, .int .u64 u]) ∧ Below w.heap.size w w'
theorem agg109 : IsAgg Try.prog 109 4 := ⟨_, Try.underlying109, rfl, by kernel_rfl⟩
set_option maxRecDepth 100000 in
set_option maxHeartbeats 4000000 in
theorem round_ok (x y z u : Int) (w : World) : Calls Try.prog 82 #[.agg #[.int .u64 x, .int .u64 y, .int .u64 z, .int .u64 u]] w (SomeFour w) := by
  go_enter Try.func82, Try.ntmps82
  go_wp2_with fail
  generalize hW : World.alloc (World.alloc w _) _ = W
  obtain ⟨hB, b1, b2⟩ := boxes2 hW
  clear hW
  obtain ⟨c1, f1, l1⟩ := b1.facts
  refine wp_draw (fun _ => False) [([0, 1, 3, 4], some (2, true)), ([5, 6], some (7, false))] #[0, 1, 3, 0, 8, 31, 63, 127] (by kernel_rfl) (by kernel_rfl) (fun _ _ _ d _ h => by cases d <;> exact h) ?_
  replace hB := hB.drew
  replace b1 := b1.drew
  replace b2 := b2.drew
  replace c1 := b1.cell
  replace f1 := b1.free
  apply lin_true
  · intro w' hx
    obtain ⟨k1, -, -⟩ := (b1.ext hx id).facts
    simp only [List.map_cons, List.map_nil, opAt, Array.getD_eq_getD_getElem?, List.getElem?_toArray, List.getElem?_cons_succ, List.getElem?_cons_zero, Option.getD_some]
    repeat still_step
    exact wpStill_nil rfl
  simp only [opAt, Array.getD_eq_getD_getElem?, List.getElem?_toArray, List.getElem?_cons_succ, List.getElem?_cons_zero, Option.getD_some]
  go_wp2_with (go_at_call 83; refine (rotl_ok _ _ _ (by omega) (by omega)).mono ?_; rintro e w' ⟨x1, rfl, rfl⟩)
  refine ⟨Ext.refl _ _, ?_⟩
  apply lin_false
  · intro w' hx
    obtain ⟨k1, -, -⟩ := (b1.ext hx id).facts
    simp only [List.map_cons, List.map_nil, opAt, Array.getD_eq_getD_getElem?, List.getElem?_toArray, List.getElem?_cons_succ, List.getElem?_cons_zero, Option.getD_some]
    repeat still_step
    exact wpStill_nil rfl
  simp only [opAt, Array.getD_eq_getD_getElem?, List.getElem?_toArray, List.getElem?_cons_succ, List.getElem?_cons_zero, Option.getD_some]
  refine wpl_store rfl 86 _ _ rfl (v := .int .u64 _) rfl rfl b1 (by kernel_rfl) (by simp [Value.cells]) rfl ?_
  clear c1 f1 l1
  intro W1 b1' hg'
  have hN := hB.grown hg' (by have := b1.lt; simp at this ⊢; omega) (by simp)
  have b2' := b2.grown hg' (by simp)
  clear hB b1 b2
  have hB := hN
  have b2 := b2'
  have b1 := b1'
  clear hN b1' b2' hg'
  simp [splice, Value.cells] at b1
  obtain ⟨c1, f1, l1⟩ := b1.facts
  go_wp2_with fail
  refine lin_done ?_
  go_wp2_with (first | (go_at_call 83; refine (rotl_ok _ _ _ (by omega) (by omega)).mono ?_; rintro e w' ⟨x1, rfl, rfl⟩) | (refine wpl_store rfl 86 _ _ rfl (v := .int .u64 _) rfl rfl b1 (by kernel_rfl) (by simp [Value.cells]) rfl ?_; clear c1 f1 l1; intro W1 b1' hg'; have hN := hB.grown hg' (by have := b1.lt; simp at this ⊢; omega) (by simp); have b2' := b2.grown hg' (by simp); clear hB b1 b2; have hB := hN; have b2 := b2'; have b1 := b1'; clear hN b1' b2' hg'; simp [splice, Value.cells] at b1; obtain ⟨c1, f1, l1⟩ := b1.facts))
  refine wp_draw (fun _ => False) [([0, 1, 3, 4], some (2, true)), ([5, 6], some (7, false))] #[0, 1, 3, 0, 8, 31, 63, 127] (by kernel_rfl) (by kernel_rfl) (fun _ _ _ d _ h => by cases d <;> exact h) ?_
  replace hB := hB.drew
  replace b1 := b1.drew
  replace b2 := b2.drew
  replace c1 := b1.cell
  replace f1 := b1.free
  apply lin_true
  · intro w' hx
    obtain ⟨k1, -, -⟩ := (b1.ext hx id).facts
    simp only [List.map_cons, List.map_nil, opAt, Array.getD_eq_getD_getElem?, List.getElem?_toArray, List.getElem?_cons_succ, List.getElem?_cons_zero, Option.getD_some]
    repeat still_step
    exact wpStill_nil rfl
  simp only [opAt, Array.getD_eq_getD_getElem?, List.getElem?_toArray, List.getElem?_cons_succ, List.getElem?_cons_zero, Option.getD_some]
  go_wp2_with (go_at_call 83; refine (rotl_ok _ _ _ (by omega) (by omega)).mono ?_; rintro e w' ⟨x1, rfl, rfl⟩)
  refine ⟨Ext.refl _ _, ?_⟩
  apply lin_false
  · intro w' hx
    obtain ⟨k1, -, -⟩ := (b1.ext hx id).facts
    simp only [List.map_cons, List.map_nil, opAt, Array.getD_eq_getD_getElem?, List.getElem?_toArray, List.getElem?_cons_succ, List.getElem?_cons_zero, Option.getD_some]
    repeat still_step
    exact wpStill_nil rfl
  simp only [opAt, Array.getD_eq_getD_getElem?, List.getElem?_toArray, List.getElem?_cons_succ, List.getElem?_cons_zero, Option.getD_some]
  refine wpl_store rfl 86 _ _ rfl (v := .int .u64 _) rfl rfl b1 (by kernel_rfl) (by simp [Value.cells]) rfl ?_
  clear c1 f1 l1
  intro W1 b1' hg'
  have hN := hB.grown hg' (by have := b1.lt; simp at this ⊢; omega) (by simp)
  have b2' := b2.grown hg' (by simp)
  clear hB b1 b2
  have hB := hN
  have b2 := b2'
  have b1 := b1'
  clear hN b1' b2' hg'
  simp [splice, Value.cells] at b1
  obtain ⟨c1, f1, l1⟩ := b1.facts
  go_wp2_with fail
  refine lin_done ?_
  go_wp2_with (first | (go_at_call 83; refine (rotl_ok _ _ _ (by omega) (by omega)).mono ?_; rintro e w' ⟨x1, rfl, rfl⟩) | (refine wpl_store rfl 86 _ _ rfl (v := .int .u64 _) rfl rfl b1 (by kernel_rfl) (by simp [Value.cells]) rfl ?_; clear c1 f1 l1; intro W1 b1' hg'; have hN := hB.grown hg' (by have := b1.lt; simp at this ⊢; omega) (by simp); have b2' := b2.grown hg' (by simp); clear hB b1 b2; have hB := hN; have b2 := b2'; have b1 := b1'; clear hN b1' b2' hg'; simp [splice, Value.cells] at b1; obtain ⟨c1, f1, l1⟩ := b1.facts))
  refine wp_draw (fun _ => False) [([0, 1, 3, 4], some (2, true)), ([5, 6], some (7, false))] #[0, 1, 3, 0, 8, 31, 63, 127] (by kernel_rfl) (by kernel_rfl) (fun _ _ _ d _ h => by cases d <;> exact h) ?_
  replace hB := hB.drew
  replace b1 := b1.drew
  replace b2 := b2.drew
  replace c1 := b1.cell
  replace f1 := b1.free
  apply lin_true
  · intro w' hx
    obtain ⟨k1, -, -⟩ := (b1.ext hx id).facts
    simp only [List.map_cons, List.map_nil, opAt, Array.getD_eq_getD_getElem?, List.getElem?_toArray, List.getElem?_cons_succ, List.getElem?_cons_zero, Option.getD_some]
    repeat still_step
    exact wpStill_nil rfl
  simp only [opAt, Array.getD_eq_getD_getElem?, List.getElem?_toArray, List.getElem?_cons_succ, List.getElem?_cons_zero, Option.getD_some]
  go_wp2_with (go_at_call 83; refine (rotl_ok _ _ _ (by omega) (by omega)).mono ?_; rintro e w' ⟨x1, rfl, rfl⟩)
  refine ⟨Ext.refl _ _, ?_⟩
  apply lin_false
  · intro w' hx
    obtain ⟨k1, -, -⟩ := (b1.ext hx id).facts
    simp only [List.map_cons, List.map_nil, opAt, Array.getD_eq_getD_getElem?, List.getElem?_toArray, List.getElem?_cons_succ, List.getElem?_cons_zero, Option.getD_some]
    repeat still_step
    exact wpStill_nil rfl
  simp only [opAt, Array.getD_eq_getD_getElem?, List.getElem?_toArray, List.getElem?_cons_succ, List.getElem?_cons_zero, Option.getD_some]
  refine wpl_store rfl 86 _ _ rfl (v := .int .u64 _) rfl rfl b1 (by kernel_rfl) (by simp [Value.cells]) rfl ?_
  clear c1 f1 l1
  intro W1 b1' hg'
  have hN := hB.grown hg' (by have := b1.lt; simp at this ⊢; omega) (by simp)
  have b2' := b2.grown hg' (by simp)
  clear hB b1 b2
  have hB := hN
  have b2 := b2'
  have b1 := b1'
  clear hN b1' b2' hg'
  simp [splice, Value.cells] at b1
  obtain ⟨c1, f1, l1⟩ := b1.facts
  go_wp2_with fail
  refine lin_done ?_
  go_wp2_with (first | (go_at_call 83; refine (rotl_ok _ _ _ (by omega) (by omega)).mono ?_; rintro e w' ⟨x1, rfl, rfl⟩) | (refine wpl_store rfl 86 _ _ rfl (v := .int .u64 _) rfl rfl b1 (by kernel_rfl) (by simp [Value.cells]) rfl ?_; clear c1 f1 l1; intro W1 b1' hg'; have hN := hB.grown hg' (by have := b1.lt; simp at this ⊢; omega) (by simp); have b2' := b2.grown hg' (by simp); clear hB b1 b2; have hB := hN; have b2 := b2'; have b1 := b1'; clear hN b1' b2' hg'; simp [splice, Value.cells] at b1; obtain ⟨c1, f1, l1⟩ := b1.facts))
  refine wp_draw (fun _ => False) [([0, 1, 3, 4], some (2, true)), ([5, 6], some (7, false))] #[0, 1, 3, 0, 8, 31, 63, 127] (by kernel_rfl) (by kernel_rfl) (fun _ _ _ d _ h => by cases d <;> exact h) ?_
  replace hB := hB.drew
  replace b1 := b1.drew
  replace b2 := b2.drew
  replace c1 := b1.cell
  replace f1 := b1.free
  apply lin_true
  · intro w' hx
    obtain ⟨k1, -, -⟩ := (b1.ext hx id).facts
    simp only [List.map_cons, List.map_nil, opAt, Array.getD_eq_getD_getElem?, List.getElem?_toArray, List.getElem?_cons_succ, List.getElem?_cons_zero, Option.getD_some]
    repeat still_step
    exact wpStill_nil rfl
  simp only [opAt, Array.getD_eq_getD_getElem?, List.getElem?_toArray, List.getElem?_cons_succ, List.getElem?_cons_zero, Option.getD_some]
  go_wp2_with (go_at_call 83; refine (rotl_ok _ _ _ (by omega) (by omega)).mono ?_; rintro e w' ⟨x1, rfl, rfl⟩)
  refine ⟨Ext.refl _ _, ?_⟩
  apply lin_false
  · intro w' hx
    obtain ⟨k1, -, -⟩ := (b1.ext hx id).facts
    simp only [List.map_cons, List.map_nil, opAt, Array.getD_eq_getD_getElem?, List.getElem?_toArray, List.getElem?_cons_succ, List.getElem?_cons_zero, Option.getD_some]
    repeat still_step
    exact wpStill_nil rfl
  simp only [opAt, Array.getD_eq_getD_getElem?, List.getElem?_toArray, List.getElem?_cons_succ, List.getElem?_cons_zero, Option.getD_some]
  refine wpl_store rfl 86 _ _ rfl (v := .int .u64 _) rfl rfl b1 (by kernel_rfl) (by simp [Value.cells]) rfl ?_
  clear c1 f1 l1
  intro W1 b1' hg'
  have hN := hB.grown hg' (by have := b1.lt; simp at this ⊢; omega) (by simp)
  have b2' := b2.grown hg' (by simp)
  clear hB b1 b2
  have hB := hN
  have b2 := b2'
  have b1 := b1'
  clear hN b1' b2' hg'
  simp [splice, Value.cells] at b1
  obtain ⟨c1, f1, l1⟩ := b1.facts
  go_wp2_with fail
  refine lin_done ?_
  go_wp2_with (first | (go_at_call 83; refine (rotl_ok _ _ _ (by omega) (by omega)).mono ?_; rintro e w' ⟨x1, rfl, rfl⟩) | (refine wpl_store rfl 86 _ _ rfl (v := .int .u64 _) rfl rfl b1 (by kernel_rfl) (by simp [Value.cells]) rfl ?_; clear c1 f1 l1; intro W1 b1' hg'; have hN := hB.grown hg' (by have := b1.lt; simp at this ⊢; omega) (by simp); have b2' := b2.grown hg' (by simp); clear hB b1 b2; have hB := hN; have b2 := b2'; have b1 := b1'; clear hN b1' b2' hg'; simp [splice, Value.cells] at b1; obtain ⟨c1, f1, l1⟩ := b1.facts) | (refine wpl_store rfl 109 _ _ rfl (v := .agg _) rfl rfl b2 (by kernel_rfl) (by simp [Value.cells]) rfl ?_; intro W2 b2' hg2; simp [splice, Value.cells] at b2'))
  refine bodyPost_ret (res_c rfl rfl b2' agg109) rfl ⟨_, _, _, _, rfl, ?_⟩
  exact hB.grown hg2 (by omega) (by simp)

end Go.Proofs.Ytokeanadhihlfaa
