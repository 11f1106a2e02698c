/-
  Contracts: SamePacket, SamePackets at equal packets.
-/
import Derived.Test.YtokeanadhihlfaaF11
namespace Go.Proofs.Ytokeanadhihlfaa
open Go.RowKit

theorem SB.alloc' {w : World} {S : Nat → Prop} {A : Option Addr} {c : Nat} {l : List UInt8} (h : SB w S A c l) (hS : ∀ b, S b → b < w.heap.size) (o : Obj) : SB (w.alloc o) S A c l := ⟨h.cap, h.max, h.row.alloc hS o⟩

set_option maxRecDepth 100000 in
set_option maxHeartbeats 4000000 in
theorem samePacket_ok (p : Pk) (A A' : Option Addr) (c c' : Nat) (w : World) (h : SB w (Lt w.heap.size) A c p.data) (h' : SB w (Lt w.heap.size) A' c' p.data) :
    Calls Try.prog 33 #[.agg (pkC p A c).toArray, .agg (pkC p A' c').toArray] w (LawTrue w) := by
  have v1 := fun (o1 o2 : Obj) => conv_str ((h.alloc' (fun _ h => h) o1).alloc' (fun b (hb : b < w.heap.size) => by simp; omega) o2)
  have v2 := fun (o1 o2 : Obj) => conv_str ((h'.alloc' (fun _ h => h) o1).alloc' (fun b (hb : b < w.heap.size) => by simp; omega) o2)
  generalize strB p.data = s at v1 v2
  unfold pkC
  go_enter Try.func33, Try.ntmps33
  go_wp2
  go_ret
  exact ⟨rfl, ((Below.refl _ _).alloc (Nat.le_refl _) _).alloc (by simp) _⟩

set_option maxRecDepth 100000 in
set_option maxHeartbeats 4000000 in
theorem samePackets_ok (ps : List Pk) (A A' : Option Addr) (c c' : Nat) (w : World) (h : SP w (Lt w.heap.size) A c ps) (h' : SP w (Lt w.heap.size) A' c' ps) (hl : ps.length ≤ 1000000) :
    Calls Try.prog 25 #[.slice A ps.length c, .slice A' ps.length c'] w (LawTrue w) := by
  go_enter Try.func25, Try.ntmps25
  go_wp2_with fail
  go_loopw [5] (fun i wr => ∃ k : Nat, k ≤ ps.length ∧ i = .int .i64 k ∧ Below w.heap.size w wr) (fun i _ => ps.length - (intOf i).toNat)
  case atStart => exact ⟨0, Nat.zero_le _, rfl, Below.refl _ _⟩
  case round =>
    obtain ⟨k, hk, rfl, hB⟩ := hrel
    by_cases hlt : k < ps.length
    · obtain ⟨p, hp⟩ : ∃ p, ps[k]? = some p := ⟨_, List.getElem?_eq_getElem hlt⟩
      obtain ⟨b, off, D, d, rfl, hb, hpd, r0, r1, r2, r3, r4, r5⟩ := h.cells hp
      obtain ⟨b', off', D', d', rfl, hb', hpd', q0, q1, q2, q3, q4, q5⟩ := h'.cells hp
      have hki : (k : Int) < (ps.length : Int) := by omega
      have bc : ∀ o, wr.cell? ⟨b, o, none⟩ = w.cell? ⟨b, o, none⟩ := fun o => hB.cell (p := ⟨b, o, none⟩) hb
      have bc' : ∀ o, wr.cell? ⟨b', o, none⟩ = w.cell? ⟨b', o, none⟩ := fun o => hB.cell (p := ⟨b', o, none⟩) hb'
      rw [← bc] at r0 r1 r2 r3 r4 r5
      rw [← bc'] at q0 q1 q2 q3 q4 q5
      clear bc bc'
      have hz := hB.size
      have lb : b < wr.heap.size := Nat.lt_of_lt_of_le hb hz
      have lb' : b' < wr.heap.size := Nat.lt_of_lt_of_le hb' hz
      go_wp2_with fail
      refine wp_draw (fun _ => False) [([0, 1, 2, 3, 4, 5, 6, 7], some (8, true)), ([9], none)] #[0, 0, 3, 7, 0, 0, 48, 112, 255, 511] (by kernel_rfl) (by kernel_rfl) (fun _ _ _ d _ h => by cases d <;> exact h) ?_
      apply lin_true
      · intro w' hx
        have hc : ∀ x o, x < wr.heap.size → w'.cell? ⟨x, o, none⟩ = wr.cell? ⟨x, o, none⟩ := hx.cell'
        rw [← hc b _ lb] at r0 r1 r2 r3 r4 r5
        rw [← hc b' _ lb'] at q0 q1 q2 q3 q4 q5
        clear hc
        simp only [List.map_cons, List.map_nil, opAt, Array.getD_eq_getD_getElem?, List.getElem?_toArray, List.getElem?_cons_succ, List.getElem?_cons_zero, Option.getD_some]
        repeat still_step
        exact wpStill_nil rfl
      simp only [opAt, Array.getD_eq_getD_getElem?, List.getElem?_toArray, List.getElem?_cons_succ, List.getElem?_cons_zero, Option.getD_some]
      go_wp2_with (go_at_call 33; refine (samePacket_ok p D D' d d' _ ((hpd.below hB).drew.more hz) ((hpd'.below hB).drew.more hz)).mono ?_; rintro e w1 ⟨rfl, hb1⟩)
      refine ⟨ext_of_below hb1 _, ?_⟩
      apply lin_none
      · intro w' hx
        clear hx
        simp only [List.map_cons, List.map_nil, opAt, Array.getD_eq_getD_getElem?, List.getElem?_toArray, List.getElem?_cons_succ, List.getElem?_cons_zero, Option.getD_some]
        repeat still_step
        exact wpStill_nil rfl
      refine lin_done ?_
      go_wp2
      go_roundw
      case rel => exact ⟨k + 1, by omega, by go_num, below_go hB.drew hz hb1⟩
      case measure => simp [intOf]; omega
    · go_wp2
      go_ret
      exact ⟨rfl, hB⟩
end Go.Proofs.Ytokeanadhihlfaa
