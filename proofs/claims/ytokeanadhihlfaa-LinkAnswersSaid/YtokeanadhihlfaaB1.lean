/-
  Bytes and Long give new memory of the right number of bytes, in the form that the evaluator uses.
-/
import Derived.Test.YtokeanadhihlfaaF5
import Derived.Test.YtokeanadhihlfaaMB
set_option linter.all false
namespace Go.Proofs.Ytokeanadhihlfaa
open Go.RowKit

def GivesB (w : World) (n : Nat) (e : Ending) (w' : World) : Prop := ∃ v, e = .returned v ∧ OwnB w v w' n
theorem own_take {w : World} {base : Nat} {e : TypeId} {n m c : Nat} {D : Option Addr} {xs : List Value} (h : w.ownsRow base e 1 (.slice D n c) n xs) (hm : m ≤ n) : w.ownsRow base e 1 (.slice D m c) m (xs.take m) := by
  obtain ⟨h1, h2⟩ := h
  refine ⟨by simp; omega, ?_⟩
  rcases h2 with ⟨hv, hn⟩ | ⟨g, cap, cur, hv, hb, hc, hnc, hx, hs, ht⟩
  · left
    obtain rfl : m = 0 := by omega
    injection hv with q1 q2 q3
    subst q1; subst q3
    exact ⟨rfl, rfl⟩
  · right
    injection hv with q1 q2 q3
    subst q1; subst q3
    refine ⟨g, c, cur, rfl, hb, hc, by omega, hx, hs, ?_⟩
    rw [← ht, List.take_take]
    congr 1
    omega
set_option maxRecDepth 100000 in
set_option maxHeartbeats 4000000 in
theorem stream_own (x y n : Int) (w : World) (h0 : 0 ≤ n) (h1 : n ≤ 1024) : Calls Try.prog 55 #[.int .u64 x, .int .u64 y, .int .i64 n] w (GivesB w n.toNat) := by
  go_enter Try.func55, Try.ntmps55
  have hmx : max n 0 = n := by omega
  have hmn : min n 1024 = n := by omega
  go_wp2_with fail
  go_loopw [7, 8] (fun v i wr => ∃ k : Nat, i = .int .i64 k ∧ 8 * (k : Int) < n + 8 ∧ OwnB w v wr (8 * k)) (fun _ i _ => 1032 - 8 * (intOf i).toNat)
  case atStart => exact ⟨0, rfl, by omega, OwnB.nil w⟩
  case round =>
    obtain ⟨k, rfl, hk, ls, D, cap, rfl, hls, ho, hB⟩ := hrel
    have HL := Lib.hid hls
    clear hls
    by_cases hlt : 8 * (k : Int) < n
    · go_wp2_with fail
      refine (words_ok _ _ [y, (k : Int)] _ (Row.of_blk (Blk.new _ _ _)) (by simp)).mono ?_
      rintro e w1 ⟨l1, A1, c1, H1, rfl, hs1, hb1⟩
      have o1 := own_below (ho.alloc _) hb1
      have B1 := below_go (hB.alloc hB.size _) (by have := hB.size; simp; omega) hb1
      have z1 := B1.size
      go_wp2_with fail
      refine (mac_ok _ _ _ _ _ _ hs1 (by have := H1.out; simp at this; omega)).mono ?_
      rintro e w2 ⟨x2, rfl, hb2⟩
      have o2 := own_below o1 hb2
      have B2 := below_go B1 z1 hb2
      have z2 := B2.size
      go_wp2_with fail
      refine (words_ok _ _ [x2] _ (Row.of_blk (Blk.new _ _ _)) (by simp)).mono ?_
      rintro e w3 ⟨l3, A3, c3, H3, rfl, hs3, hb3⟩
      have o3 := own_below (o2.alloc _) hb3
      have B3 := below_go (B2.alloc z2 _) (by simp; omega) hb3
      have z3 := B3.size
      have HL3 := Lib.hid (show l3.length = 8 by have := H3.out; simpa using this)
      go_wp2_with (at_builtin; refine wpl_append rfl _ _ 28 rfl elB w.heap.size rfl o3 rfl hs3.row (by simp) (map_BV_one _) (by have := HL3.out; unfold maxLen; omega) (by have := HL3.out; omega) z3 ?_; intro D' cap' w4 ho' hg' _)
      have e3 : 8 * k + l3.length = 8 * (k + 1) := by have := HL3.out; omega
      go_roundw
      case rel =>
        refine ⟨k + 1, by go_num, by omega, ls ++ l3, D', cap', by rw [e3], by have := HL3.out; have := HL.out; simp; omega, ?_, B3.grown hg' z3 (fun g hg => (o3.lt g hg).1)⟩
        rw [← e3, List.map_append]
        exact ho'
      case measure => simp [intOf]; omega
    · have hcap := own_cap ho
      have hsl : n ≤ (cap : Int) := by omega
      go_wp2
      go_ret
      have hl := HL.out
      refine ⟨_, rfl, ls.take n.toNat, D, cap, rfl, by simp; omega, ?_, hB⟩
      rw [List.map_take]
      exact own_take ho (by omega)

theorem OwnB.to {w wr : World} {v : Value} {k m : Nat} (h : OwnB w v wr k) (e : k = m) : OwnB w v wr m := by subst e; exact h
theorem bytes_own (x n : Int) (w : World) : Calls Try.prog 30 #[.int .i64 x, .int .i64 n] w (GivesB w (clampN n)) := by
  go_enter Try.func30, Try.ntmps30
  go_wp2_with fail
  all_goals
    refine (stream_own _ _ _ _ (by omega) (by omega)).mono ?_
    rintro e w1 ⟨v1, rfl, h1⟩
    go_wp2_with fail
    go_ret
    refine ⟨v1, rfl, ?_⟩
    exact h1.to (by unfold clampN; omega)
set_option maxRecDepth 100000 in
set_option maxHeartbeats 4000000 in
theorem long_own (x n : Int) (w : World) (hx0 : 0 ≤ x) (hx1 : x ≤ 1000) (h0 : 0 ≤ n) (h1 : n ≤ 4097) : Calls Try.prog 22 #[.int .i64 x, .int .i64 n] w (GivesB w n.toNat) := by
  go_enter Try.func22, Try.ntmps22
  go_wp2_with fail
  go_loopw [5, 6] (fun v i wr => ∃ k m : Nat, i = .int .i64 k ∧ (m : Int) ≤ n ∧ k ≤ m ∧ OwnB w v wr m) (fun v _ _ => 4097 - (lenOfV v))
  case atStart => exact ⟨0, 0, rfl, by omega, by omega, OwnB.nil w⟩
  case round =>
    obtain ⟨k, m, rfl, hm, hk, ls, D, cap, rfl, hls, ho, hB⟩ := hrel
    have HL := Lib.hid hls
    clear hls
    by_cases hlt : (m : Int) < n
    · go_wp2_with fail
      all_goals
        refine (bytes_ok _ _ _).mono ?_
        rintro e w3 ⟨l3, A3, c3, H3, rfl, hs3, hb3⟩
        have o3 := own_below ho hb3
        have z0 := hB.size
        have B3 := below_go hB z0 hb3
        have z3 := B3.size
        have HL3 := Lib.hid (show 0 < l3.length ∧ m + l3.length ≤ n.toNat by have := H3.out; unfold clampN at this; omega)
        clear H3
        go_wp2_with (at_builtin; refine wpl_append rfl _ _ 28 rfl elB w.heap.size rfl o3 rfl hs3.row (by simp) (map_BV_one _) (by have := HL3.out; unfold maxLen; omega) (by have := HL3.out; omega) z3 ?_; intro D' cap' w4 ho' hg' _)
        go_roundw
        case rel =>
          have := HL3.out
          refine ⟨k + 1, m + l3.length, by go_num, by omega, by omega, ls ++ l3, D', cap', rfl, by have := HL.out; simp; omega, ?_, B3.grown hg' z3 (fun g hg => (o3.lt g hg).1)⟩
          rw [List.map_append]
          exact ho'
        case measure => have := HL3.out; simp [lenOfV]; omega
    · obtain rfl : m = n.toNat := by omega
      go_wp2
      go_ret
      exact ⟨_, rfl, ls, D, cap, rfl, HL.out, ho, hB⟩

namespace V
theorem keeps_of_gives {x n : Int} {f : FuncId} {N : Nat} {post : AV → Option AV → Prop} (hc : ∀ w, Calls Proofs.Try.prog f #[.int .i64 x, .int .i64 n] w (GivesB w N)) (h : ∀ l, RngL .u8 l → l.length = N → post (.ownf E0) (some (.lini 5 .u8 l))) : Spec Proofs.Try.prog f [.int .i64 x, .int .i64 n] none post := by
  intro w S m vs hS hv he
  simp only [RepVL, RepV0, Rep] at hv
  obtain ⟨v1, vs1, rfl, ⟨h1, _⟩, v2, vs2, rfl, ⟨h2, _⟩, rfl⟩ := hv
  cases h1
  cases h2
  have hm : m = none := he
  subst hm
  refine (hc w).mono ?_
  rintro e w' ⟨v, rfl, ls, D, cap, rfl, hl, ⟨o1, o2⟩, hb⟩
  have hr : RngL .u8 (ls.map fun b => ((b.toNat : Nat) : Int)) := by
    intro z hz
    obtain ⟨b, _, rfl⟩ := List.mem_map.1 hz
    have := b.toNat_lt
    rw [in_u8]
    omega
  have hfr : Fr (blkOf none) w w' := ⟨hb.os, hb.tape, hb.output, hb.size, fun k hk _ => hb.block k hk⟩
  have hp := h _ hr (by simpa using hl)
  rcases o2 with ⟨hv, hn⟩ | ⟨g, cap', cur, hv, hg, hcur, hnc, hmx, hsz, htk⟩
  · subst hn
    cases hv
    refine ⟨_, _, _, S, some ⟨none, 1, 0, 0⟩, hp, rfl, ?_, ⟨_, rfl, ?_, fun g hg => by cases hg⟩, fun _ h => h, fun b hb' => ⟨Nat.lt_of_lt_of_le (hS b hb') hb.size, .inl hb'⟩, (fun g hh => by obtain ⟨_, e1, e2⟩ := hh; cases e1; cases e2), (fun hh => by obtain ⟨t, l, h⟩ := hh; cases h), hfr⟩
    · simp only [RepV, RepV0, Rep]
      exact ⟨⟨none, 1, 0, 0⟩, by simp [s1], rfl⟩
    · simp only [EntR]
      exact ⟨trivial, by simpa using hl.symm, by omega, by simp, hr, by simp, fun g hg => by cases hg⟩
  · injection hv with q1 q2 q3
    subst q1; subst q3
    refine ⟨_, _, _, S, some ⟨some g, 1, N, cap⟩, hp, rfl, ?_, ⟨_, rfl, ?_, fun g' hg' hs => ?_⟩, fun _ h => h, fun b hb' => ⟨Nat.lt_of_lt_of_le (hS b hb') hb.size, .inl hb'⟩, (fun g' hh => ?_), (fun hh => by obtain ⟨t, l, h⟩ := hh; cases h), hfr⟩
    · simp only [RepV, RepV0, Rep]
      exact ⟨⟨some g, 1, N, cap⟩, by simp [s1], by simp [Mb.addr]⟩
    · simp only [EntR]
      refine ⟨trivial, by simpa using hl.symm, hnc, hmx, hr, by simp, fun g' hg' => ?_⟩
      cases hg'
      refine ⟨cur, hcur, hsz, ?_⟩
      rw [htk, List.map_map]
      rfl
    · cases hg'
      have := hS g hs
      omega
    · obtain ⟨_, e1, e2⟩ := hh
      cases e1
      cases e2
      exact .inr hg
def pm30 : Pm := ⟨[.s, .s], .no, [.li 5 .u8]⟩
def S30 : Tr
  | [.int .i64 x, .int .i64 n], none, post => ∀ l, RngL .u8 l → l.length = clampN n → post (.ownf 1000) (some (.lini 5 .u8 l))
  | _, _, _ => False
theorem k30 : Keeps Proofs.Try.prog 30 S30 := by
  refine ⟨?_, Proofs.Try.f30, by kernel_rfl, by kernel_rfl, by kernel_rfl⟩
  intro args e post h
  unfold S30 at h
  split at h
  · exact keeps_of_gives (fun w => bytes_own _ _ w) h
  · exact h.elim
def pm22 : Pm := ⟨[.s, .s], .no, [.li 5 .u8]⟩
def S22 : Tr
  | [.int .i64 x, .int .i64 n], none, post => chk (decide (0 ≤ x ∧ x ≤ 1000 ∧ 0 ≤ n ∧ n ≤ 4097)) (∀ l, RngL .u8 l → l.length = n.toNat → post (.ownf 1000) (some (.lini 5 .u8 l)))
  | _, _, _ => False
theorem k22 : Keeps Proofs.Try.prog 22 S22 := by
  refine ⟨?_, Proofs.Try.f22, by kernel_rfl, by kernel_rfl, by kernel_rfl⟩
  intro args e post h
  unfold S22 at h
  split at h
  · obtain ⟨h1, h2⟩ := chk_iff.1 h
    obtain ⟨h3, h4, h5, h6⟩ := of_decide_eq_true h1
    exact keeps_of_gives (fun w => long_own _ _ w h3 h4 h5 h6) h2
  · exact h.elim
end V
end Go.Proofs.Ytokeanadhihlfaa
