/-
  Contracts: clone, check.
-/
import Derived.Test.YtokeanadhihlfaaP1
namespace Go.Proofs.Ytokeanadhihlfaa
open Go.RowKit

theorem own_empty {w : World} {base : Nat} (hb : base ≤ w.heap.size) : (w.alloc (.cells #[] 5)).ownsRow base 5 1 (.slice (some ⟨w.heap.size, 0, none⟩) 0 0) 0 [] :=
  World.ownsRow_made w #[] 0 hb (Nat.zero_le _) rfl

/-- A copy of l in new memory. -/
def CopyOf (w : World) (l : List UInt8) (e : Ending) (w' : World) : Prop :=
  ∃ (A : Option Addr) (c : Nat), e = .returned (.slice A l.length c) ∧ SB w' (Fr w.heap.size w'.heap.size) A c l ∧ Below w.heap.size w w'
theorem clone_ok (A : Option Addr) (c : Nat) (l : List UInt8) (n : Nat) (S : Nat → Prop) (w : World) (hs : SB w S A c l) (hS : ∀ b, S b → b < w.heap.size) (hn : n = l.length) (hl : l.length ≤ 1000000) :
    Calls Try.prog 53 #[.slice A n c] w (CopyOf w l) := by
  subst hn
  go_enter Try.func53, Try.ntmps53
  go_wp2_with (at_builtin; refine wpl_append rfl _ _ 28 rfl elB w.heap.size rfl (own_empty (Nat.le_refl _)) rfl (hs.row.alloc hS _) (by simp) (map_BV_one _) (by unfold maxLen; omega) (by omega) (by simp) ?_; intro D' cap' w1 ho' hg' _)
  go_ret
  simp only [Nat.zero_add, List.nil_append] at ho'
  refine ⟨D', cap', by simp, SB.of_ownF ho', ?_⟩
  exact ((Below.refl _ _).alloc (Nat.le_refl _) _).grown hg' (by simp) (fun g hg => by cases hg; exact Nat.le_refl _)

/-- The error of a packet that is to be encoded. -/
def checkE (p : Pk) : Int :=
  if p.first = true then
    if p.cmd < 1 ∨ 127 < p.cmd ∨ p.len < 0 ∨ 65535 < p.len then 9 else if p.seq ≠ 0 then 4 else if 57 < p.data.length then 8 else 0
  else
    if p.seq < 0 ∨ 127 < p.seq then 9 else if p.cmd ≠ 0 ∨ p.len ≠ 0 then 4 else if 59 < p.data.length then 8 else 0
def CheckPost (w : World) (x : Int) (e : Ending) (w' : World) : Prop := e = .returned (.int .i64 x) ∧ Below w.heap.size w w'

theorem capacity_true (w : World) : Calls Try.prog 54 #[.bool true] w fun e w' => e = .returned (.int .i64 57) ∧ w = w' := capacity_ok true w
theorem capacity_false (w : World) : Calls Try.prog 54 #[.bool false] w fun e w' => e = .returned (.int .i64 59) ∧ w = w' := capacity_ok false w

set_option maxRecDepth 100000 in
set_option maxHeartbeats 4000000 in
theorem check_first (ch cmd len seq : Int) (data : List UInt8) (A : Option Addr) (c : Nat) (w : World) (hl : data.length ≤ 1000000) :
    Calls Try.prog 57 #[.agg (pkC ⟨ch, true, cmd, len, seq, data⟩ A c).toArray] w (CheckPost w (checkE ⟨ch, true, cmd, len, seq, data⟩)) := by
  unfold pkC
  by_cases h1 : cmd < 1 ∨ 127 < cmd ∨ len < 0 ∨ 65535 < len
  · have HX : checkE ⟨ch, true, cmd, len, seq, data⟩ = 9 := by simp [checkE, h1]
    rw [HX]
    clear HX
    rcases h1 with h1 | h1 | h1 | h1
    · go_enter Try.func57, Try.ntmps57
      go_wp2
      all_goals (go_ret; exact ⟨rfl, (Below.refl _ _).alloc (Nat.le_refl _) _⟩)
    · go_enter Try.func57, Try.ntmps57
      go_wp2
      all_goals (go_ret; exact ⟨rfl, (Below.refl _ _).alloc (Nat.le_refl _) _⟩)
    · by_cases g1 : cmd < 1
      all_goals
        go_enter Try.func57, Try.ntmps57
        go_wp2
        all_goals (go_ret; exact ⟨rfl, (Below.refl _ _).alloc (Nat.le_refl _) _⟩)
    · by_cases g1 : cmd < 1
      all_goals
        go_enter Try.func57, Try.ntmps57
        go_wp2
        all_goals (go_ret; exact ⟨rfl, (Below.refl _ _).alloc (Nat.le_refl _) _⟩)
  · have g1 : 1 ≤ cmd := by omega
    have g2 : cmd ≤ 127 := by omega
    have g3 : 0 ≤ len := by omega
    have g4 : len ≤ 65535 := by omega
    by_cases h2 : seq = 0
    · subst h2
      by_cases h3 : 57 < data.length
      · have HX : checkE ⟨ch, true, cmd, len, 0, data⟩ = 8 := by simp [checkE, h1, h3]
        rw [HX]
        clear HX h1
        go_enter Try.func57, Try.ntmps57
        go_wp2_with fail
        generalize hW : World.alloc w _ = W
        obtain ⟨hB, b1⟩ := boxes1 hW
        clear hW
        refine wp_draw (fun _ => False) [([0, 1, 2, 3, 4], some (5, true)), ([6, 7], none)] #[0, 1, 3, 0, 8, 24, 63, 127] (by kernel_rfl) (by kernel_rfl) (fun _ _ _ d _ h => by cases d <;> exact h) ?_
        apply lin_true
        · intro w' hx
          obtain ⟨k1, -, -⟩ := (b1.ext (w := W.drew) hx id).facts
          simp only [List.map_cons, List.map_nil, opAt, Array.getD_eq_getD_getElem?, List.getElem?_toArray, List.getElem?_cons_succ, List.getElem?_cons_zero, Option.getD_some]
          repeat still_step
          exact wpStill_nil rfl
        simp only [opAt, Array.getD_eq_getD_getElem?, List.getElem?_toArray, List.getElem?_cons_succ, List.getElem?_cons_zero, Option.getD_some]
        go_wp2_with (go_at_call 54; refine (capacity_true _).mono ?_; rintro e w' ⟨rfl, rfl⟩)
        refine ⟨Ext.refl _ _, ?_⟩
        apply lin_none
        · intro w' hx
          clear hx
          simp only [List.map_cons, List.map_nil, opAt, Array.getD_eq_getD_getElem?, List.getElem?_toArray, List.getElem?_cons_succ, List.getElem?_cons_zero, Option.getD_some]
          repeat still_step
          exact wpStill_nil rfl
        refine lin_done ?_
        go_wp2
        go_ret
        exact ⟨rfl, hB.drew⟩
      · have HX : checkE ⟨ch, true, cmd, len, 0, data⟩ = 0 := by simp [checkE, h1, h3]
        rw [HX]
        clear HX h1
        go_enter Try.func57, Try.ntmps57
        go_wp2_with fail
        generalize hW : World.alloc w _ = W
        obtain ⟨hB, b1⟩ := boxes1 hW
        clear hW
        refine wp_draw (fun _ => False) [([0, 1, 2, 3, 4], some (5, true)), ([6, 7], none)] #[0, 1, 3, 0, 8, 24, 63, 127] (by kernel_rfl) (by kernel_rfl) (fun _ _ _ d _ h => by cases d <;> exact h) ?_
        apply lin_true
        · intro w' hx
          obtain ⟨k1, -, -⟩ := (b1.ext (w := W.drew) hx id).facts
          simp only [List.map_cons, List.map_nil, opAt, Array.getD_eq_getD_getElem?, List.getElem?_toArray, List.getElem?_cons_succ, List.getElem?_cons_zero, Option.getD_some]
          repeat still_step
          exact wpStill_nil rfl
        simp only [opAt, Array.getD_eq_getD_getElem?, List.getElem?_toArray, List.getElem?_cons_succ, List.getElem?_cons_zero, Option.getD_some]
        go_wp2_with (go_at_call 54; refine (capacity_true _).mono ?_; rintro e w' ⟨rfl, rfl⟩)
        refine ⟨Ext.refl _ _, ?_⟩
        apply lin_none
        · intro w' hx
          clear hx
          simp only [List.map_cons, List.map_nil, opAt, Array.getD_eq_getD_getElem?, List.getElem?_toArray, List.getElem?_cons_succ, List.getElem?_cons_zero, Option.getD_some]
          repeat still_step
          exact wpStill_nil rfl
        refine lin_done ?_
        go_wp2
        go_ret
        exact ⟨rfl, hB.drew⟩
    · have HX : checkE ⟨ch, true, cmd, len, seq, data⟩ = 4 := by simp [checkE, h1, h2]
      rw [HX]
      clear HX h1
      have h2' : (seq != 0) = true := by simpa using h2
      go_enter Try.func57, Try.ntmps57
      go_wp2
      go_ret
      exact ⟨rfl, (Below.refl _ _).alloc (Nat.le_refl _) _⟩

set_option maxRecDepth 100000 in
set_option maxHeartbeats 4000000 in
theorem check_next (ch cmd len seq : Int) (data : List UInt8) (A : Option Addr) (c : Nat) (w : World) (hl : data.length ≤ 1000000) :
    Calls Try.prog 57 #[.agg (pkC ⟨ch, false, cmd, len, seq, data⟩ A c).toArray] w (CheckPost w (checkE ⟨ch, false, cmd, len, seq, data⟩)) := by
  unfold pkC
  by_cases h1 : seq < 0 ∨ 127 < seq
  · have HX : checkE ⟨ch, false, cmd, len, seq, data⟩ = 9 := by simp [checkE, h1]
    rw [HX]
    clear HX
    rcases h1 with h1 | h1
    all_goals
      go_enter Try.func57, Try.ntmps57
      go_wp2
      all_goals (go_ret; exact ⟨rfl, (Below.refl _ _).alloc (Nat.le_refl _) _⟩)
  · have g1 : 0 ≤ seq := by omega
    have g2 : seq ≤ 127 := by omega
    by_cases h2 : cmd = 0 ∧ len = 0
    · obtain ⟨rfl, rfl⟩ := h2
      by_cases h3 : 59 < data.length
      · have HX : checkE ⟨ch, false, 0, 0, seq, data⟩ = 8 := by simp [checkE, h1, h3]
        rw [HX]
        clear HX h1
        go_enter Try.func57, Try.ntmps57
        go_wp2_with fail
        generalize hW : World.alloc w _ = W
        obtain ⟨hB, b1⟩ := boxes1 hW
        clear hW
        refine wp_draw (fun _ => False) [([0, 1, 2, 3, 4], some (5, true)), ([6, 7], none)] #[0, 1, 3, 0, 8, 24, 63, 127] (by kernel_rfl) (by kernel_rfl) (fun _ _ _ d _ h => by cases d <;> exact h) ?_
        apply lin_true
        · intro w' hx
          obtain ⟨k1, -, -⟩ := (b1.ext (w := W.drew) hx id).facts
          simp only [List.map_cons, List.map_nil, opAt, Array.getD_eq_getD_getElem?, List.getElem?_toArray, List.getElem?_cons_succ, List.getElem?_cons_zero, Option.getD_some]
          repeat still_step
          exact wpStill_nil rfl
        simp only [opAt, Array.getD_eq_getD_getElem?, List.getElem?_toArray, List.getElem?_cons_succ, List.getElem?_cons_zero, Option.getD_some]
        go_wp2_with (go_at_call 54; refine (capacity_false _).mono ?_; rintro e w' ⟨rfl, rfl⟩)
        refine ⟨Ext.refl _ _, ?_⟩
        apply lin_none
        · intro w' hx
          clear hx
          simp only [List.map_cons, List.map_nil, opAt, Array.getD_eq_getD_getElem?, List.getElem?_toArray, List.getElem?_cons_succ, List.getElem?_cons_zero, Option.getD_some]
          repeat still_step
          exact wpStill_nil rfl
        refine lin_done ?_
        go_wp2
        go_ret
        exact ⟨rfl, hB.drew⟩
      · have HX : checkE ⟨ch, false, 0, 0, seq, data⟩ = 0 := by simp [checkE, h1, h3]
        rw [HX]
        clear HX h1
        go_enter Try.func57, Try.ntmps57
        go_wp2_with fail
        generalize hW : World.alloc w _ = W
        obtain ⟨hB, b1⟩ := boxes1 hW
        clear hW
        refine wp_draw (fun _ => False) [([0, 1, 2, 3, 4], some (5, true)), ([6, 7], none)] #[0, 1, 3, 0, 8, 24, 63, 127] (by kernel_rfl) (by kernel_rfl) (fun _ _ _ d _ h => by cases d <;> exact h) ?_
        apply lin_true
        · intro w' hx
          obtain ⟨k1, -, -⟩ := (b1.ext (w := W.drew) hx id).facts
          simp only [List.map_cons, List.map_nil, opAt, Array.getD_eq_getD_getElem?, List.getElem?_toArray, List.getElem?_cons_succ, List.getElem?_cons_zero, Option.getD_some]
          repeat still_step
          exact wpStill_nil rfl
        simp only [opAt, Array.getD_eq_getD_getElem?, List.getElem?_toArray, List.getElem?_cons_succ, List.getElem?_cons_zero, Option.getD_some]
        go_wp2_with (go_at_call 54; refine (capacity_false _).mono ?_; rintro e w' ⟨rfl, rfl⟩)
        refine ⟨Ext.refl _ _, ?_⟩
        apply lin_none
        · intro w' hx
          clear hx
          simp only [List.map_cons, List.map_nil, opAt, Array.getD_eq_getD_getElem?, List.getElem?_toArray, List.getElem?_cons_succ, List.getElem?_cons_zero, Option.getD_some]
          repeat still_step
          exact wpStill_nil rfl
        refine lin_done ?_
        go_wp2
        go_ret
        exact ⟨rfl, hB.drew⟩
    · have HX : checkE ⟨ch, false, cmd, len, seq, data⟩ = 4 := by simp only [checkE, h1]; simp; omega
      rw [HX]
      clear HX h1
      by_cases h3 : cmd = 0
      · subst h3
        have h4 : (len != 0) = true := by simp at h2 ⊢; exact h2
        clear h2
        go_enter Try.func57, Try.ntmps57
        go_wp2
        go_ret
        exact ⟨rfl, (Below.refl _ _).alloc (Nat.le_refl _) _⟩
      · have h4 : (cmd != 0) = true := by simpa using h3
        clear h2
        go_enter Try.func57, Try.ntmps57
        go_wp2
        go_ret
        exact ⟨rfl, (Below.refl _ _).alloc (Nat.le_refl _) _⟩

theorem check_ok (p : Pk) (A : Option Addr) (c : Nat) (w : World) (hl : p.data.length ≤ 1000000) : Calls Try.prog 57 #[.agg (pkC p A c).toArray] w (CheckPost w (checkE p)) := by
  obtain ⟨ch, first, cmd, len, seq, data⟩ := p
  cases first
  · exact check_next ch cmd len seq data A c w hl
  · exact check_first ch cmd len seq data A c w hl
end Go.Proofs.Ytokeanadhihlfaa
