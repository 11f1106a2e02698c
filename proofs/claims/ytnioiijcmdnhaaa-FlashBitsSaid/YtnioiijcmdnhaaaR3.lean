/-
  bytes.Repeat of one byte: the walk.
-/
import Derived.Test.YtnioiijcmdnhaaaR2
set_option linter.all false
namespace Go.Proofs.Ytnioiijcmdnhaaa
open Go.RowKit V

theorem sz5 (w : World) : (Go.sizeOf 5).run Try.prog w = .ok 1 w := by
  have h := inf5
  cases hi : Try.prog.info? 5 with
  | none => rw [hi] at h; exact absurd h (by simp)
  | some i =>
    rw [hi] at h
    have h1 : i.size = 1 := by simpa using h
    simp [sizeOf, typeInfo, hi, h1]
theorem tail_run (W : World) (h n k : Nat) (hk : k < n) : (Instr.slice 22 (.slice (some ⟨h, 0, none⟩) n n) (some (.int .i64 (k : Int))) none none).run Try.prog W = .ok (.slice (some ⟨h, k, none⟩) (n - k) (n - k)) W := by
  rw [Lib.run_slice_tailV W 22 5 und22 sz5 _ _ _ (by omega)]
  unfold Lib.tailV
  rw [if_neg (by omega)]
theorem head_run (W : World) (h n k : Nat) (hk : k ≤ n) : (Instr.slice 22 (.slice (some ⟨h, 0, none⟩) n n) none (some (.int .i64 (k : Int))) none).run Try.prog W = .ok (.slice (some ⟨h, 0, none⟩) k n) W := by
  rw [run_slice_h W 22 _ _ _ (by kernel_rfl) .i64 (k : Int) (by omega) (by omega), show Try.prog.elem 22 = 5 from by kernel_rfl, sz5]
  simp [Result.andThen, sliced, add_plain]
theorem heap_sc (g : Nat) {i : Nat} (hne : i ≠ g) : ∀ (vs : List Value) (o : Nat) (w : World), (w.setCells g o vs).heap[i]? = w.heap[i]?
  | [], _, _ => rfl
  | v :: r, o, w => by rw [World.setCells, heap_sc g hne r]; exact Below.heap_setCell _ _ _ _ hne
theorem size_sc (g : Nat) : ∀ (vs : List Value) (o : Nat) (w : World), (w.setCells g o vs).heap.size = w.heap.size
  | [], _, _ => rfl
  | v :: r, o, w => by rw [World.setCells, size_sc g r]; simp [World.setCell]
theorem ext_sc (g o : Nat) (vs : List Value) (w : World) : Ext (fun b => b = g) w (w.setCells g o vs) := ⟨Nat.le_of_eq (size_sc g vs o w).symm, fun k _ hk => heap_sc g hk vs o w⟩
set_option maxRecDepth 100000 in
set_option maxHeartbeats 4000000 in
theorem repeat_ok (b off c n : Nat) (x : Int) (w : World) (hcell : w.cell? ⟨b, off, none⟩ = some (.int .u8 x)) (hn : 1 ≤ n) (hn2 : n ≤ 8192) :
    Calls Try.prog 23 #[.slice (some ⟨b, off, none⟩) 1 c, .int .i64 (n : Int)] w fun e w' => ∃ w1, e = .returned (.slice (some ⟨w1.heap.size, 0, none⟩) n n) ∧ Fr (fun _ => False) w w1 ∧ RB w1 w' w1.heap.size n n x := by
  have f0 : ((n : Int) == 0) = false := beq_eq_false_iff_ne.2 (by omega)
  have f1 : ¬ (n : Int) < 0 := by omega
  have f2 : ¬ (8192 : Int) < (n : Int) := by omega
  go_enter Try.func23, Try.ntmps23
  go_wp2_with fail
  refine (mul_ok (n : Int) _ (by omega) (by omega)).mono ?_
  rintro e w1 ⟨rfl, hfr⟩
  have hlt : b < w.heap.size := World.block_lt_of_cell? w _ hcell
  have hcell1 : w1.cell? ⟨b, off, none⟩ = some (.int .u8 x) := by
    rw [← hcell]
    have := hfr.block b hlt (fun h => h)
    simp [World.cell?, this]
  obtain ⟨cs, hrunM, hle, _⟩ := Lib.run_makeNoZero (P := Try.prog) w1 #[3] 22 5 und22 n (by omega)
  have hcall : (callFunc 33 #[.int .i64 (n : Int)]).run Try.prog w1 = .ok (.value (.slice (some ⟨w1.heap.size, 0, none⟩) n cs.size)) ((w1.alloc (.cells cs 5)).drewN 2) := by
    rw [run_callFunc_extern Try.func33 (by kernel_rfl) (by kernel_rfl) (by kernel_rfl) (e := Extern.BytealgMakeNoZero.makeNoZero #[3] #[22]) (by kernel_rfl), hrunM]
    rfl
  clear hrunM
  have i0 : (0 : Int) ≤ (n : Int) := by omega
  have i1 : (n : Int) ≤ (cs.size : Int) := by omega
  have B0 := Lib.Buf.start w1 cs 5 n 2 hle
  have R0 : RB w1 ((w1.alloc (.cells cs 5)).drewN 2) w1.heap.size n 0 x := ⟨B0.below, B0.there, B0.free, fun j hj => by omega, by omega⟩
  have hcW : ((w1.alloc (.cells cs 5)).drewN 2).cell? ⟨b, off, none⟩ = some (.int .u8 x) := Lib.Below.cellOf B0.below hcell1 (Nat.le_refl _)
  have hr1 : (Builtin.copy_ #[22, 22] 3 #[.slice (some ⟨w1.heap.size, 0, none⟩) n n, .slice (some ⟨b, off, none⟩) 1 c]).run Try.prog ((w1.alloc (.cells cs 5)).drewN 2) = .ok (.int .i64 1) (((w1.alloc (.cells cs 5)).drewN 2).setCells w1.heap.size 0 (List.replicate 1 (Value.int .u8 x))) :=
    run_copy_cells (P := Try.prog) _ 22 22 3 5 w1.heap.size 0 n n ⟨b, off, none⟩ 1 c (List.replicate 1 (Value.int .u8 x)) und22 inf5 (by rw [List.length_replicate]; exact (Nat.min_eq_left hn).symm)
      (fun j v hj => by
        obtain ⟨hlt, hv⟩ := List.getElem?_eq_some_iff.1 hj
        rw [List.length_replicate] at hlt
        rw [List.getElem_replicate] at hv
        subst hv
        obtain rfl : j = 0 := by omega
        rw [add_plain]
        exact hcW)
      (fun j hj => by rw [List.length_replicate] at hj; exact R0.there _ (by omega)) (fun j hj => by rw [List.length_replicate] at hj; exact R0.free _ (by omega))
      (fun v hv => by rw [List.eq_of_mem_replicate hv]; rfl)
  have R1 := R0.put (m := 1) (by omega)
  rw [Nat.zero_add] at R1
  generalize ((w1.alloc (.cells cs 5)).drewN 2).setCells w1.heap.size 0 (List.replicate 1 (Value.int .u8 x)) = w2 at hr1 R1
  go_wp2_with (at_builtin; refine Lib.wpList_copy_run _ rfl _ _ 22 22 rfl _ _ rfl rfl hr1 ?_)
  clear hr1 hcall B0 R0 hcW
  go_loopw [10, 11] (fun bp _ wr => ∃ k : Nat, bp = .int .i64 k ∧ 1 ≤ k ∧ k ≤ n ∧ RB w1 wr w1.heap.size n k x) (fun bp _ _ => n - (intOf bp).toNat)
  case atStart => exact ⟨1, rfl, by omega, by omega, R1⟩
  case round =>
    obtain ⟨k, rfl, hk1, hk2, hR⟩ := hrel
    by_cases hlt2 : k < n
    · have hkn : (k : Int) < (n : Int) := by omega
      go_wp2_with fail
      have hmin : min (k : Int) (n : Int) = (k : Int) := by omega
      rw [hmin]
      have hsl1 := fun W => tail_run W w1.heap.size n k hlt2
      have hsl2 := fun W => head_run W w1.heap.size n k hk2
      refine wp_draw (fun b => b = w1.heap.size) [([0,1,2,3,4,5,6], some (7, true)), ([8, 9], none)] #[0, 0, 0, 6, 0, 0, 48, 126, 255, 511] (by kernel_rfl) (by kernel_rfl) (fun _ _ _ d _ h => by cases d <;> exact h) ?_
      have hR' : RB w1 wr.drew w1.heap.size n k x := ⟨hR.below.drew, hR.there, hR.free, hR.holds, hR.fits⟩
      apply lin_true
      · intro w' hx
        simp only [List.map_cons, List.map_nil, opAt, Array.getD_eq_getD_getElem?, List.getElem?_toArray, List.getElem?_cons_succ, List.getElem?_cons_zero, Option.getD_some]
        repeat still_step
        exact wpStill_nil rfl
      · simp only [opAt, Array.getD_eq_getD_getElem?, List.getElem?_toArray, List.getElem?_cons_succ, List.getElem?_cons_zero, Option.getD_some]
        refine Lib.wpList_copy_run _ rfl _ _ 22 22 rfl _ _ rfl rfl (hR'.copy hlt2 (Nat.le_refl k) (by omega) 3) ?_
        have hR2 := hR'.put (m := Nat.min k (n - k)) (by have h9 : Nat.min k (n - k) ≤ n - k := Nat.min_le_right _ _; omega)
        have hext := ext_sc w1.heap.size k (List.replicate (Nat.min k (n - k)) (Value.int .u8 x)) wr.drew
        have hm1 : 1 ≤ Nat.min k (n - k) := Nat.le_min.2 ⟨hk1, by omega⟩
        have hm2 : Nat.min k (n - k) ≤ n - k := Nat.min_le_right _ _
        generalize wr.drew.setCells w1.heap.size k (List.replicate (Nat.min k (n - k)) (Value.int .u8 x)) = w3 at hR2 hext
        generalize Nat.min k (n - k) = m at hR2 hm1 hm2
        have hadd : IntKind.i64.wrap ((k : Int) + (m : Int)) = ((k + m : Nat) : Int) := by rw [wrap_i64 (by omega) (by omega)]; omega
        refine ⟨hext, ?_⟩
        simp only [Act.put, List.setIfInBounds_toArray, List.set_cons_succ, List.set_cons_zero]
        apply lin_none
        · intro w' hx
          simp only [List.map_cons, List.map_nil, opAt, Array.getD_eq_getD_getElem?, List.getElem?_toArray, List.getElem?_cons_succ, List.getElem?_cons_zero, Option.getD_some]
          repeat still_step
          exact wpStill_nil rfl
        · refine lin_done ?_
          have hZ : ((k + m : Nat) : Int) = (k : Int) + (m : Int) := by omega
          rw [← hZ]
          go_roundw
          case rel => exact ⟨_, _, _, _, _, _, _, _, _, _, _, _, _, _, _, _, _, ⟨k + m, rfl, by omega, by omega, hR2⟩, rfl⟩
          case measure => show n - ((k + m : Nat) : Int).toNat < n - (k : Int).toNat; omega
    · obtain rfl : k = n := by omega
      go_wp2
      go_ret
      exact ⟨w1, rfl, hfr, hR⟩
set_option maxRecDepth 100000 in
set_option maxHeartbeats 4000000 in
theorem repeat_big (b off c n : Nat) (x : Int) (w : World) (hcell : w.cell? ⟨b, off, none⟩ = some (.int .u8 x)) (hn : 1 ≤ n) (hn2 : 8192 < n) (hn3 : n ≤ 1000000) :
    Calls Try.prog 23 #[.slice (some ⟨b, off, none⟩) 1 c, .int .i64 (n : Int)] w fun e w' => ∃ w1, e = .returned (.slice (some ⟨w1.heap.size, 0, none⟩) n n) ∧ Fr (fun _ => False) w w1 ∧ RB w1 w' w1.heap.size n n x := by
  have f0 : ((n : Int) == 0) = false := beq_eq_false_iff_ne.2 (by omega)
  have f1 : ¬ (n : Int) < 0 := by omega
  have f2 : (8192 : Int) < (n : Int) := by omega
  go_enter Try.func23, Try.ntmps23
  go_wp2_with fail
  refine (mul_ok (n : Int) _ (by omega) (by omega)).mono ?_
  rintro e w1 ⟨rfl, hfr⟩
  have hlt : b < w.heap.size := World.block_lt_of_cell? w _ hcell
  have hcell1 : w1.cell? ⟨b, off, none⟩ = some (.int .u8 x) := by
    rw [← hcell]
    have := hfr.block b hlt (fun h => h)
    simp [World.cell?, this]
  obtain ⟨cs, hrunM, hle, _⟩ := Lib.run_makeNoZero (P := Try.prog) w1 #[3] 22 5 und22 n (by omega)
  have hcall : (callFunc 33 #[.int .i64 (n : Int)]).run Try.prog w1 = .ok (.value (.slice (some ⟨w1.heap.size, 0, none⟩) n cs.size)) ((w1.alloc (.cells cs 5)).drewN 2) := by
    rw [run_callFunc_extern Try.func33 (by kernel_rfl) (by kernel_rfl) (by kernel_rfl) (e := Extern.BytealgMakeNoZero.makeNoZero #[3] #[22]) (by kernel_rfl), hrunM]
    rfl
  clear hrunM
  have i0 : (0 : Int) ≤ (n : Int) := by omega
  have i1 : (n : Int) ≤ (cs.size : Int) := by omega
  have B0 := Lib.Buf.start w1 cs 5 n 2 hle
  have R0 : RB w1 ((w1.alloc (.cells cs 5)).drewN 2) w1.heap.size n 0 x := ⟨B0.below, B0.there, B0.free, fun j hj => by omega, by omega⟩
  have hcW : ((w1.alloc (.cells cs 5)).drewN 2).cell? ⟨b, off, none⟩ = some (.int .u8 x) := Lib.Below.cellOf B0.below hcell1 (Nat.le_refl _)
  have hr1 : (Builtin.copy_ #[22, 22] 3 #[.slice (some ⟨w1.heap.size, 0, none⟩) n n, .slice (some ⟨b, off, none⟩) 1 c]).run Try.prog ((w1.alloc (.cells cs 5)).drewN 2) = .ok (.int .i64 1) (((w1.alloc (.cells cs 5)).drewN 2).setCells w1.heap.size 0 (List.replicate 1 (Value.int .u8 x))) :=
    run_copy_cells (P := Try.prog) _ 22 22 3 5 w1.heap.size 0 n n ⟨b, off, none⟩ 1 c (List.replicate 1 (Value.int .u8 x)) und22 inf5 (by rw [List.length_replicate]; exact (Nat.min_eq_left hn).symm)
      (fun j v hj => by
        obtain ⟨hlt, hv⟩ := List.getElem?_eq_some_iff.1 hj
        rw [List.length_replicate] at hlt
        rw [List.getElem_replicate] at hv
        subst hv
        obtain rfl : j = 0 := by omega
        rw [add_plain]
        exact hcW)
      (fun j hj => by rw [List.length_replicate] at hj; exact R0.there _ (by omega)) (fun j hj => by rw [List.length_replicate] at hj; exact R0.free _ (by omega))
      (fun v hv => by rw [List.eq_of_mem_replicate hv]; rfl)
  have R1 := R0.put (m := 1) (by omega)
  rw [Nat.zero_add] at R1
  generalize ((w1.alloc (.cells cs 5)).drewN 2).setCells w1.heap.size 0 (List.replicate 1 (Value.int .u8 x)) = w2 at hr1 R1
  go_wp2_with (at_builtin; refine Lib.wpList_copy_run _ rfl _ _ 22 22 rfl _ _ rfl rfl hr1 ?_)
  clear hr1 hcall B0 R0 hcW
  go_loopw [10, 11] (fun bp _ wr => ∃ k : Nat, bp = .int .i64 k ∧ 1 ≤ k ∧ k ≤ n ∧ RB w1 wr w1.heap.size n k x) (fun bp _ _ => n - (intOf bp).toNat)
  case atStart => exact ⟨1, rfl, by omega, by omega, R1⟩
  case round =>
    obtain ⟨k, rfl, hk1, hk2, hR⟩ := hrel
    by_cases hlt2 : k < n
    · have hkn : (k : Int) < (n : Int) := by omega
      go_wp2_with fail
      have hc1 : 1 ≤ Nat.min k 8192 := Nat.le_min.2 ⟨hk1, by omega⟩
      have hc2 : Nat.min k 8192 ≤ k := Nat.min_le_left _ _
      have hmin : min (k : Int) (8192 : Int) = ((Nat.min k 8192 : Nat) : Int) := by show min (k : Int) (8192 : Int) = ((min k 8192 : Nat) : Int); omega
      rw [hmin]
      generalize Nat.min k 8192 = q at hc1 hc2
      have hsl1 := fun W => tail_run W w1.heap.size n k hlt2
      have hsl2 := fun W => head_run W w1.heap.size n q (by omega)
      refine wp_draw (fun b => b = w1.heap.size) [([0,1,2,3,4,5,6], some (7, true)), ([8, 9], none)] #[0, 0, 0, 6, 0, 0, 48, 126, 255, 511] (by kernel_rfl) (by kernel_rfl) (fun _ _ _ d _ h => by cases d <;> exact h) ?_
      have hR' : RB w1 wr.drew w1.heap.size n k x := ⟨hR.below.drew, hR.there, hR.free, hR.holds, hR.fits⟩
      apply lin_true
      · intro w' hx
        simp only [List.map_cons, List.map_nil, opAt, Array.getD_eq_getD_getElem?, List.getElem?_toArray, List.getElem?_cons_succ, List.getElem?_cons_zero, Option.getD_some]
        repeat still_step
        exact wpStill_nil rfl
      · simp only [opAt, Array.getD_eq_getD_getElem?, List.getElem?_toArray, List.getElem?_cons_succ, List.getElem?_cons_zero, Option.getD_some]
        refine Lib.wpList_copy_run _ rfl _ _ 22 22 rfl _ _ rfl rfl (hR'.copy hlt2 hc2 (by omega) 3) ?_
        have hR2 := hR'.put (m := Nat.min q (n - k)) (by have h9 : Nat.min q (n - k) ≤ n - k := Nat.min_le_right _ _; omega)
        have hext := ext_sc w1.heap.size k (List.replicate (Nat.min q (n - k)) (Value.int .u8 x)) wr.drew
        have hm1 : 1 ≤ Nat.min q (n - k) := Nat.le_min.2 ⟨hc1, by omega⟩
        have hm2 : Nat.min q (n - k) ≤ n - k := Nat.min_le_right _ _
        generalize wr.drew.setCells w1.heap.size k (List.replicate (Nat.min q (n - k)) (Value.int .u8 x)) = w3 at hR2 hext
        generalize Nat.min q (n - k) = m at hR2 hm1 hm2
        have hadd : IntKind.i64.wrap ((k : Int) + (m : Int)) = ((k + m : Nat) : Int) := by rw [wrap_i64 (by omega) (by omega)]; omega
        refine ⟨hext, ?_⟩
        simp only [Act.put, List.setIfInBounds_toArray, List.set_cons_succ, List.set_cons_zero]
        apply lin_none
        · intro w' hx
          simp only [List.map_cons, List.map_nil, opAt, Array.getD_eq_getD_getElem?, List.getElem?_toArray, List.getElem?_cons_succ, List.getElem?_cons_zero, Option.getD_some]
          repeat still_step
          exact wpStill_nil rfl
        · refine lin_done ?_
          have hZ : ((k + m : Nat) : Int) = (k : Int) + (m : Int) := by omega
          rw [← hZ]
          go_roundw
          case rel => exact ⟨_, _, _, _, _, _, _, _, _, _, _, _, _, _, _, _, _, ⟨k + m, rfl, by omega, by omega, hR2⟩, rfl⟩
          case measure => show n - ((k + m : Nat) : Int).toNat < n - (k : Int).toNat; omega
    · obtain rfl : k = n := by omega
      go_wp2
      go_ret
      exact ⟨w1, rfl, hfr, hR⟩
end Go.Proofs.Ytnioiijcmdnhaaa
