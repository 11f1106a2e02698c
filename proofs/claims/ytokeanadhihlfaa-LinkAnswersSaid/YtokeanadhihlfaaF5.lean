/-
  Contracts: Stream, Bytes, Long: some bytes of the right number.
-/
import Derived.Test.YtokeanadhihlfaaF4
namespace Go.Proofs.Ytokeanadhihlfaa
open Go.RowKit

theorem own_cap {w : World} {base : Nat} {e : TypeId} {size n c : Nat} {D : Option Addr} {xs : List Value} (h : w.ownsRow base e size (.slice D n c) n xs) : n ≤ c := by
  rcases h.2 with ⟨hv, _⟩ | ⟨g, cap, cur, hv, _, _, hnc, _⟩
  · injection hv with _ h1 h2; omega
  · injection hv with _ _ h2; omega

/-- A slice's length. -/
def lenOfV : Value → Nat | .slice _ n _ => n | _ => 0

def clampN (n : Int) : Nat := (min (max n 0) 1024).toNat
set_option maxRecDepth 100000 in
set_option maxHeartbeats 4000000 in
theorem stream_in (x y n : Int) (w : World) (h0 : 0 ≤ n) (h1 : n ≤ 1024) : Calls Try.prog 55 #[.int .u64 x, .int .u64 y, .int .i64 n] w (SomeBytes w n.toNat) := by
  go_enter Try.func55, Try.ntmps55
  have hmx : max n 0 = n := by omega
  have hmn : min n 1024 = n := by omega
  go_wp2_with fail
  go_loopw [7, 8] (fun v i wr => ∃ k : Nat, i = .int .i64 k ∧ 8 * (k : Int) < n + 8 ∧ OwnB w v wr (8 * k)) (fun _ i _ => 1032 - 8 * (intOf i).toNat)
  case atStart => exact ⟨0, rfl, by omega, OwnB.nil w⟩
  case round =>
    obtain ⟨k, rfl, hk, ls, D, cap, rfl, hls, ho, hB⟩ := hrel
    have HL := Lib.hid hls
    clear hls
    by_cases hlt : 8 * (k : Int) < n
    · go_wp2_with fail
      refine (words_ok _ _ [y, (k : Int)] _ (Row.of_blk (Blk.new _ _ _)) (by simp)).mono ?_
      rintro e w1 ⟨l1, A1, c1, H1, rfl, hs1, hb1⟩
      have o1 := own_below (ho.alloc _) hb1
      have B1 := below_go (hB.alloc hB.size _) (by have := hB.size; simp; omega) hb1
      have z1 := B1.size
      go_wp2_with fail
      refine (mac_ok _ _ _ _ _ _ hs1 (by have := H1.out; simp at this; omega)).mono ?_
      rintro e w2 ⟨x2, rfl, hb2⟩
      have o2 := own_below o1 hb2
      have B2 := below_go B1 z1 hb2
      have z2 := B2.size
      go_wp2_with fail
      refine (words_ok _ _ [x2] _ (Row.of_blk (Blk.new _ _ _)) (by simp)).mono ?_
      rintro e w3 ⟨l3, A3, c3, H3, rfl, hs3, hb3⟩
      have o3 := own_below (o2.alloc _) hb3
      have B3 := below_go (B2.alloc z2 _) (by simp; omega) hb3
      have z3 := B3.size
      have HL3 := Lib.hid (show l3.length = 8 by have := H3.out; simpa using this)
      go_wp2_with (at_builtin; refine wpl_append rfl _ _ 28 rfl elB w.heap.size rfl o3 rfl hs3.row (by simp) (map_BV_one _) (by have := HL3.out; unfold maxLen; omega) (by have := HL3.out; omega) z3 ?_; intro D' cap' w4 ho' hg' _)
      have e3 : 8 * k + l3.length = 8 * (k + 1) := by have := HL3.out; omega
      go_roundw
      case rel =>
        refine ⟨k + 1, by go_num, by omega, ls ++ l3, D', cap', by rw [e3], by have := HL3.out; have := HL.out; simp; omega, ?_, B3.grown hg' z3 (fun g hg => (o3.lt g hg).1)⟩
        rw [← e3, List.map_append]
        exact ho'
      case measure => simp [intOf]; omega
    · have hcap := own_cap ho
      have hsl : n ≤ (cap : Int) := by omega
      go_wp2
      go_ret
      refine ⟨ls.take n.toNat, D, cap, Lib.hid (by have := HL.out; simp; omega), ?_, ?_, hB⟩
      · have := HL.out
        rw [show (ls.take n.toNat).length = n.toNat by simp; omega]
        rfl
      · exact (SB.of_own (by exact ho)).take _ (by have := HL.out; omega)

theorem bytes_ok (x n : Int) (w : World) : Calls Try.prog 30 #[.int .i64 x, .int .i64 n] w (SomeBytes w (clampN n)) := by
  go_enter Try.func30, Try.ntmps30
  go_wp2_with fail
  all_goals
    refine (stream_in _ _ _ _ (by omega) (by omega)).mono ?_
    rintro e w1 ⟨l1, A1, c1, H1, rfl, hs1, hb1⟩
    go_wp2_with fail
    go_ret
    exact ⟨l1, A1, c1, Lib.hid (by have := H1.out; unfold clampN; omega), rfl, hs1, hb1⟩

set_option maxRecDepth 100000 in
set_option maxHeartbeats 4000000 in
theorem long_ok (x n : Int) (w : World) (hx0 : 0 ≤ x) (hx1 : x ≤ 1000) (h0 : 0 ≤ n) (h1 : n ≤ 4097) : Calls Try.prog 22 #[.int .i64 x, .int .i64 n] w (SomeBytes w n.toNat) := by
  go_enter Try.func22, Try.ntmps22
  go_wp2_with fail
  go_loopw [5, 6] (fun v i wr => ∃ k m : Nat, i = .int .i64 k ∧ (m : Int) ≤ n ∧ k ≤ m ∧ OwnB w v wr m) (fun v _ _ => 4097 - (lenOfV v))
  case atStart => exact ⟨0, 0, rfl, by omega, by omega, OwnB.nil w⟩
  case round =>
    obtain ⟨k, m, rfl, hm, hk, ls, D, cap, rfl, hls, ho, hB⟩ := hrel
    have HL := Lib.hid hls
    clear hls
    by_cases hlt : (m : Int) < n
    · go_wp2_with fail
      all_goals
        refine (bytes_ok _ _ _).mono ?_
        rintro e w3 ⟨l3, A3, c3, H3, rfl, hs3, hb3⟩
        have o3 := own_below ho hb3
        have z0 := hB.size
        have B3 := below_go hB z0 hb3
        have z3 := B3.size
        have HL3 := Lib.hid (show 0 < l3.length ∧ m + l3.length ≤ n.toNat by have := H3.out; unfold clampN at this; omega)
        clear H3
        go_wp2_with (at_builtin; refine wpl_append rfl _ _ 28 rfl elB w.heap.size rfl o3 rfl hs3.row (by simp) (map_BV_one _) (by have := HL3.out; unfold maxLen; omega) (by have := HL3.out; omega) z3 ?_; intro D' cap' w4 ho' hg' _)
        go_roundw
        case rel =>
          have := HL3.out
          refine ⟨k + 1, m + l3.length, by go_num, by omega, by omega, ls ++ l3, D', cap', rfl, by have := HL.out; simp; omega, ?_, B3.grown hg' z3 (fun g hg => (o3.lt g hg).1)⟩
          rw [List.map_append]
          exact ho'
        case measure => have := HL3.out; simp [lenOfV]; omega
    · obtain rfl : m = n.toNat := by omega
      go_wp2
      go_ret
      exact OwnB.done ⟨ls, D, cap, rfl, HL.out, ho, hB⟩
end Go.Proofs.Ytokeanadhihlfaa
