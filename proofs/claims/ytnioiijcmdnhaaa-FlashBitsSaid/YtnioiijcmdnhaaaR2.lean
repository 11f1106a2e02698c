/-
  bytes.Repeat of one byte gives that byte, so many times.
-/
import Derived.Test.YtnioiijcmdnhaaaR1
set_option linter.all false
namespace Go.Proofs.Ytnioiijcmdnhaaa
open Go.RowKit V

theorem und22 : Try.prog.underlying 22 = some (.slice 5) := by kernel_rfl
theorem inf5 : (Try.prog.info? 5).map (·.size) = some 1 := by kernel_rfl
/-- A buffer whose first k bytes are x. -/
structure RB (w0 wr : World) (h N k : Nat) (x : Int) : Prop where
  below : Below h w0 wr
  there : ∀ j, j < N → (wr.cell? ⟨h, j, none⟩).isSome = true
  free : ∀ j, j < N → wr.frozen? ⟨h, j, none⟩ = false
  holds : ∀ j, j < k → wr.cell? ⟨h, j, none⟩ = some (.int .u8 x)
  fits : k ≤ N
theorem add_plain (b o i : Nat) : (⟨b, o, none⟩ : Addr).add i = ⟨b, o + i, none⟩ := by unfold Addr.add; split <;> simp_all
/-- m bytes x are written behind the first k. -/
theorem RB.put {w0 wr : World} {h N k m : Nat} {x : Int} (hb : RB w0 wr h N k x) (hm : k + m ≤ N) : RB w0 (wr.setCells h k (List.replicate m (Value.int .u8 x))) h N (k + m) x := by
  have hin := World.cell?_setCells_in h (List.replicate m (Value.int .u8 x)) k wr (fun j hj => by rw [List.length_replicate] at hj; exact hb.there _ (by omega))
  have hout := World.cell?_setCells_out h (List.replicate m (Value.int .u8 x)) k wr
  refine ⟨Lib.below_setCells h (Nat.le_refl _) _ _ hb.below, ?_, ?_, ?_, hm⟩
  · intro j hj
    by_cases h1 : k ≤ j ∧ j < k + m
    · obtain ⟨d, rfl⟩ : ∃ d, j = k + d := ⟨j - k, by omega⟩
      rw [hin d (by rw [List.length_replicate]; omega)]
      rfl
    · rw [hout ⟨h, j, none⟩ (fun _ _ => by rw [List.length_replicate]; show j < _ ∨ _ ≤ j; omega)]
      exact hb.there j hj
  · intro j hj
    rw [World.frozen?_setCells]
    exact hb.free j hj
  · intro j hj
    by_cases h1 : k ≤ j
    · obtain ⟨d, rfl⟩ : ∃ d, j = k + d := ⟨j - k, by omega⟩
      rw [hin d (by rw [List.length_replicate]; omega)]
      simp
    · rw [hout ⟨h, j, none⟩ (fun _ _ => Or.inl (by show j < k; omega))]
      exact hb.holds j (by omega)
theorem RB.copy {w0 wr : World} {h N k c : Nat} {x : Int} (hb : RB w0 wr h N k x) (hk : k < N) (hc : c ≤ k) (hc0 : 0 < c) (ty : TypeId) :
    (Builtin.copy_ #[22, 22] ty #[.slice (some ⟨h, k, none⟩) (N - k) (N - k), .slice (some ⟨h, 0, none⟩) c N]).run Try.prog wr = .ok (.int .i64 ((Nat.min c (N - k) : Nat) : Int)) (wr.setCells h k (List.replicate (Nat.min c (N - k)) (Value.int .u8 x))) := by
  have hmn : Nat.min c (N - k) ≤ c := Nat.min_le_left _ _
  have hmk : Nat.min c (N - k) ≤ N - k := Nat.min_le_right _ _
  have := run_copy_cells (P := Try.prog) wr 22 22 ty 5 h k (N - k) (N - k) ⟨h, 0, none⟩ c N (List.replicate (Nat.min c (N - k)) (Value.int .u8 x)) und22 inf5 (by rw [List.length_replicate])
    (fun j v hj => by
      obtain ⟨hlt, hv⟩ := List.getElem?_eq_some_iff.1 hj
      rw [List.length_replicate] at hlt
      rw [List.getElem_replicate] at hv
      subst hv
      rw [add_plain, Nat.zero_add]
      exact hb.holds j (by omega))
    (fun j hj => by rw [List.length_replicate] at hj; exact hb.there _ (by omega)) (fun j hj => by rw [List.length_replicate] at hj; exact hb.free _ (by omega))
    (fun v hv => by rw [List.eq_of_mem_replicate hv]; rfl)
  rw [List.length_replicate] at this
  exact this
end Go.Proofs.Ytnioiijcmdnhaaa
