/-
  Contracts: Mac, Words.
-/
import Derived.Test.YtokeanadhihlfaaF3
import Derived.OwnWalk
namespace Go.Proofs.Ytokeanadhihlfaa
open Go.RowKit

theorem mac_ok (x d : Int) (A : Option Addr) (c : Nat) (l : List UInt8) (w : World) (hs : SB w (Lt w.heap.size) A c l) (hl : l.length ≤ 1000000) :
    Calls Try.prog 73 #[.int .u64 x, .int .i64 d, .slice A l.length c] w (SomeWordB w) := by
  go_enter Try.func73, Try.ntmps73
  go_wp2_with (go_at_call 81; refine (sum_ok _ _ _ _ _ _ hs hl).mono ?_; rintro e w' ⟨x1, rfl, hb⟩)
  go_ret
  exact ⟨_, rfl, hb⟩

theorem elB : Elem Try.prog 28 5 1 1 := by
  obtain ⟨i, hi, h1, h2, h3⟩ := info_parts (show (Try.prog.info? 5).map (fun i => (i.zero, i.size, i.bytes)) = some (some (.int .u8 0), 1, 1) by kernel_rfl)
  exact ⟨i, _, Try.underlying28, hi, h1, h2, h3, rfl, by decide⟩

theorem byte_of (z : Int) : ∃ b : UInt8, Value.int .u8 (IntKind.u8.wrap z) = BV b := by
  have h0 : 0 ≤ IntKind.u8.wrap z ∧ IntKind.u8.wrap z < 256 := by
    have : IntKind.u8.wrap z = z % 256 := by simp [IntKind.wrap, IntKind.bits, IntKind.signed]
    rw [this]; omega
  refine ⟨UInt8.ofNat (IntKind.u8.wrap z).toNat, ?_⟩
  unfold BV
  congr 1
  simp
  omega

theorem own_snoc {w : World} {base n : Nat} {v : Value} {ls : List UInt8} {z : Int} (h : w.ownsRow base 5 1 v n (ls.map BV ++ [Value.int .u8 (IntKind.u8.wrap z)])) : ∃ b : UInt8, w.ownsRow base 5 1 v n ((ls ++ [b]).map BV) := by
  obtain ⟨b, hb⟩ := byte_of z
  exact ⟨b, by rw [List.map_append, List.map_cons, List.map_nil, ← hb]; exact h⟩

/-- A row of the call's own of n bytes. -/
def OwnB (w : World) (v : Value) (wr : World) (n : Nat) : Prop :=
  ∃ (ls : List UInt8) (D : Option Addr) (cap : Nat), v = .slice D n cap ∧ ls.length = n ∧ wr.ownsRow w.heap.size 5 1 (.slice D n cap) n (ls.map BV) ∧ Below w.heap.size w wr
theorem OwnB.nil (w : World) : OwnB w (.slice none 0 0) w 0 := ⟨[], none, 0, rfl, rfl, World.ownsRow_nil _ _ _ _, Below.refl _ _⟩

def SomeBytes (w : World) (n : Nat) (e : Ending) (w' : World) : Prop :=
  ∃ (ls : List UInt8) (A : Option Addr) (c : Nat), Hid (ls.length = n) ∧ e = .returned (.slice A ls.length c) ∧ SB w' (Lt w'.heap.size) A c ls ∧ Below w.heap.size w w'
theorem OwnB.done {w wr : World} {v : Value} {n : Nat} (h : OwnB w v wr n) : SomeBytes w n (.returned v) wr := by
  obtain ⟨ls, D, cap, rfl, hl, ho, hb⟩ := h
  exact ⟨ls, D, cap, Lib.hid hl, by rw [hl], SB.of_own ho, hb⟩
theorem own_below {w w' : World} {base : Nat} {e : TypeId} {size n : Nat} {v : Value} {xs : List Value} (h : w.ownsRow base e size v n xs) (hb : Below w.heap.size w w') : w'.ownsRow base e size v n xs := by
  refine h.kept (grown_of_below hb none) ?_
  cases hv : v.ownBlock with
  | none => exact .inl rfl
  | some g => exact .inr (by simp)

def U64s (xs : List Int) : List Value := xs.map (Value.int .u64)
set_option maxRecDepth 100000 in
set_option maxHeartbeats 4000000 in
theorem words_ok (A : Option Addr) (c : Nat) (xs : List Int) (w : World) (hr : Row w (Lt w.heap.size) A (U64s xs)) (hx : xs.length ≤ 4) :
    Calls Try.prog 72 #[.slice A xs.length c] w (SomeBytes w (8 * xs.length)) := by
  go_enter Try.func72, Try.ntmps72
  go_wp2_with fail
  go_loopw [3, 4] (fun v i wr => ∃ k : Nat, k ≤ xs.length ∧ i = .int .i64 k ∧ OwnB w v wr (8 * k)) (fun _ i _ => xs.length - (intOf i).toNat)
  case atStart => exact ⟨0, Nat.zero_le _, rfl, OwnB.nil w⟩
  case round =>
    obtain ⟨k, hk, rfl, hown⟩ := hrel
    obtain ⟨wo, rfl⟩ : ∃ wo : World, wo = wr := ⟨_, rfl⟩
    by_cases hlt : k < xs.length
    · go_wp2_with fail
      go_loopw [3, 5] (fun v j wr => ∃ t : Nat, t ≤ 8 ∧ j = .int .i64 (7 - (t : Int)) ∧ OwnB w v wr (8 * k + t)) (fun _ j _ => (intOf j + 1).toNat)
      case atStart => exact ⟨0, by omega, by simp, hown⟩
      case round =>
        obtain ⟨t, ht, rfl, ls, D, cap, rfl, hls, ho, hB⟩ := hrel
        by_cases ht8 : t < 8
        · obtain ⟨b, off, rfl, hb, hc⟩ := hr (by intro e; simp [U64s] at e; subst e; simp at hlt)
          have hcell : wr.cell? ⟨b, off + k, none⟩ = some (.int .u64 (xs.getD k 0)) := (hB.cell (p := ⟨b, off + k, none⟩) hb).trans (hc k _ (by simp [U64s, List.getElem?_eq_getElem hlt]))
          clear hc
          have hs0 : 0 ≤ 8 * (7 - (t : Int)) := by omega
          have hs1 : 8 * (7 - (t : Int)) < 64 := by omega
          go_wp2_with (at_builtin; refine wpl_append rfl _ _ 28 rfl elB w.heap.size rfl (ho.alloc _) rfl (Row.of_blk (Blk.new _ _ _)) rfl (by intro u hu; simp at hu; subst hu; rfl) (by unfold maxLen; omega) (by omega) (by have := hB.size; simp; omega) ?_; intro D' cap' w1 ho' hg' _)
          go_roundw
          case rel =>
            obtain ⟨b1, ho1⟩ := own_snoc ho'
            exact ⟨t + 1, by omega, by go_num, ls ++ [b1], D', cap', rfl, by simp [hls]; omega, ho1, (hB.alloc hB.size _).grown hg' (by have := hB.size; simp; omega) (fun g hg => (ho.lt g hg).1)⟩
          case measure => simp [intOf]; omega
        · obtain rfl : t = 8 := by omega
          go_wp2
          go_roundw
          case rel => exact ⟨k + 1, by omega, by go_num, ls, D, cap, rfl, by omega, ho, hB⟩
          case measure => simp [intOf]; omega
    · obtain rfl : k = xs.length := by omega
      go_wp2
      go_ret
      exact hown.done
end Go.Proofs.Ytokeanadhihlfaa
