/-
  The walk of the law PacketSplits.
-/
import Derived.Test.YtokeanadhihlfaaF12
import Derived.Test.YtokeanadhihlfaaL1
namespace Go.Proofs.Ytokeanadhihlfaa
open Go.RowKit

theorem two_slices {W : World} {g : Nat} {A A2 : Option Addr} {c c2 : Nat} {b l2 : List UInt8} (hb : Blk W g 28 #[.slice A b.length c, .slice A2 l2.length c2]) (h0 : SB W (Lt W.heap.size) A c b) (h1 : SB W (Lt W.heap.size) A2 c2 l2)
    (hl0 : b.length ≤ 5000) (hl1 : l2.length ≤ 5000) (k : Nat) (hk : k < 2) :
    ∃ (Ax : Option Addr) (lx : List UInt8) (cx : Nat), W.cell? ⟨g, k, none⟩ = some (.slice Ax lx.length cx) ∧ SB W (Lt W.heap.size) Ax cx lx ∧ lx.length ≤ 5000 := by
  match k, hk with
  | 0, _ => exact ⟨A, b, c, hb.cell 0, h0, hl0⟩
  | 1, _ => exact ⟨A2, l2, c2, hb.cell 1, h1, hl1⟩
theorem two_ints {W : World} {g : Nat} {x y : Int} (hb : Blk W g 3 #[.int .i64 x, .int .i64 y]) (k : Nat) (hk : k < 2) : ∃ z : Int, W.cell? ⟨g, k, none⟩ = some (.int .i64 z) := by
  match k, hk with
  | 0, _ => exact ⟨x, hb.cell 0⟩
  | 1, _ => exact ⟨y, hb.cell 1⟩
theorem count_split (ch cmd : Int) (b : List UInt8) (h : b.length ≤ 4096) : (((splitL ch cmd b).length : Int) != countI b.length) = false := by
  rw [splitL_length]
  unfold countI nconts
  rw [if_neg (by omega)]
  simp
  split <;> omega

set_option maxRecDepth 100000 in
set_option maxHeartbeats 8000000 in
theorem splits_law (ch cmd seed size : Int) (A : Option Addr) (c : Nat) (b : List UInt8) (w : World) (hs : SB w (Lt w.heap.size) A c b) :
    Calls Try.prog 4 #[.int .u32 ch, .int .i64 cmd, .int .i64 seed, .int .i64 size, .slice A b.length c] w (LawTrue w) := by
  by_cases hbig : 5000 < b.length
  · have hmx := hs.max
    have hcp := hs.cap
    unfold maxLen at hmx
    go_enter Try.func4, Try.ntmps4
    go_wp2_with (go_at_call 21; refine (awake_ok _).mono ?_; rintro e w3 ⟨rfl, hb3⟩)
    go_ret
    exact ⟨rfl, hb3⟩
  · go_enter Try.func4, Try.ntmps4
    go_wp2_with (first | (go_at_call 17; refine (mod_ok _ _ _ (by omega) (by omega)).mono ?_; rintro e w' ⟨r, hr0, hr1, rfl, rfl⟩) | (go_at_call 18; refine (size_ok _ _).mono ?_; rintro e w1 ⟨s, hs0, hs1, rfl, hb1⟩) | (go_at_call 22; refine (long_ok _ _ _ (by omega) (by omega) (by omega) (by omega)).mono ?_; rintro e w2 ⟨l2, A2, c2, H2, rfl, hs2, hb2⟩))
    have hl2 : l2.length ≤ 5000 := by have := H2.out; omega
    have hB2 := below_go hb1 hb1.size hb2
    generalize hW : World.alloc w2 _ = W
    obtain ⟨hBW, bk⟩ := boxes1 hW
    clear hW
    have t0 := (hs.up hB2).up hBW
    have t1 := hs2.up hBW
    have hBw := below_go hB2 hB2.size hBW
    go_loopw [31] (fun i wr => ∃ k : Nat, k ≤ 2 ∧ i = .int .i64 k ∧ Below W.heap.size W wr) (fun i _ => 2 - (intOf i).toNat)
    case atStart => exact ⟨0, by omega, rfl, Below.refl _ _⟩
    case round =>
      obtain ⟨k, hk, rfl, hB⟩ := hrel
      obtain ⟨wo, rfl⟩ : ∃ wo : World, wo = wr := ⟨_, rfl⟩
      by_cases hlt : k < 2
      · obtain ⟨Ax, lx, cx, hcell, hsx, hlx⟩ := two_slices bk t0 t1 (by omega) hl2 k hlt
        have hcell' : wo.cell? ⟨w2.heap.size, k, none⟩ = some (.slice Ax lx.length cx) := (hB.cell (p := ⟨w2.heap.size, k, none⟩) bk.lt).trans hcell
        clear hcell
        have hsx' := hsx.up hB
        go_wp2_with (go_at_call 17; refine (mod_ok _ _ _ (by omega) (by omega)).mono ?_; rintro e w' ⟨r2, hr20, hr21, rfl, rfl⟩)
        generalize hV : World.alloc wo _ = V
        obtain ⟨hBV, bv⟩ := boxes1 hV
        clear hV hcell'
        have hsv := hsx'.up hBV
        go_loopw [41] (fun i wr => ∃ j : Nat, j ≤ 2 ∧ i = .int .i64 j ∧ Below V.heap.size V wr) (fun i _ => 2 - (intOf i).toNat)
        case atStart => exact ⟨0, by omega, rfl, Below.refl _ _⟩
        case round =>
          obtain ⟨j, hj, rfl, hBr⟩ := hrel
          by_cases hjt : j < 2
          · obtain ⟨z, hz⟩ := two_ints bv j hjt
            have hz' : wr.cell? ⟨wo.heap.size, j, none⟩ = some (.int .i64 z) := (hBr.cell (p := ⟨wo.heap.size, j, none⟩) bv.lt).trans hz
            clear hz
            have hsr := hsv.up hBr
            have hzr := hBr.size
            by_cases hz1 : z < 1 ∨ 127 < z
            · go_wp2_with fail
              refine (split_range _ _ _ _ _ _ hz1).mono ?_
              rintro e w' ⟨rfl, rfl⟩
              go_wp2_with fail
              refine (rsplit_range _ _ _ _ _ _ hz1).mono ?_
              rintro e w' ⟨rfl, rfl⟩
              go_wp2_with fail
              refine (samePackets_ok [] _ _ _ _ _ (SP.nil _ _) (SP.nil _ _) (by simp)).mono ?_
              rintro e w3 ⟨rfl, hb3⟩
              go_wp2_with fail
              go_roundw
              case rel => exact ⟨j + 1, by omega, by go_num, below_go hBr hzr hb3⟩
              case measure => simp [intOf]; omega
            · have g1 : 1 ≤ z := by omega
              have g2 : z ≤ 127 := by omega
              clear hz1
              by_cases hlen : 4096 < lx.length
              · go_wp2_with fail
                refine (split_large _ _ _ _ _ _ g1 g2 hlen).mono ?_
                rintro e w' ⟨rfl, rfl⟩
                go_wp2_with fail
                refine (rsplit_large _ _ _ _ _ _ g1 g2 hlen).mono ?_
                rintro e w' ⟨rfl, rfl⟩
                go_wp2_with fail
                refine (samePackets_ok [] _ _ _ _ _ (SP.nil _ _) (SP.nil _ _) (by simp)).mono ?_
                rintro e w3 ⟨rfl, hb3⟩
                go_wp2_with fail
                go_roundw
                case rel => exact ⟨j + 1, by omega, by go_num, below_go hBr hzr hb3⟩
                case measure => simp [intOf]; omega
              · have hcs := Lib.hid (count_split ch z lx (by omega))
                go_wp2_with fail
                refine (split_in _ _ _ _ lx _ hsr g1 g2 (by omega)).mono ?_
                rintro e w3 ⟨A3, c3, rfl, hp3, hb3⟩
                go_wp2_with fail
                refine (rsplit_in _ _ _ _ lx _ (hsr.up hb3) g1 g2 (by omega)).mono ?_
                rintro e w4 ⟨A4, c4, rfl, hp4, hb4⟩
                go_wp2_with fail
                refine (samePackets_ok _ _ _ _ _ _ (hp3.up hb4) hp4 (by rw [splitL_length]; unfold nconts; omega)).mono ?_
                rintro e w5 ⟨rfl, hb5⟩
                have hcs' := hcs.out
                go_wp2_with (go_at_call 19; refine (count_ok _ _).mono ?_; rintro e w' ⟨rfl, rfl⟩)
                go_roundw
                case rel => exact ⟨j + 1, by omega, by go_num, below_go (below_go (below_go hBr hzr hb3) (by have := hb3.size; omega) hb4) (by have := hb3.size; have := hb4.size; omega) hb5⟩
                case measure => simp [intOf]; omega
          · go_wp2
            go_roundw
            case rel => exact ⟨k + 1, by omega, by go_num, below_go (below_go hB hB.size hBV) (by have := hB.size; have := hBV.size; omega) hBr⟩
            case measure => simp [intOf]; omega
      · go_wp2_with (go_at_call 21; refine (awake_ok _).mono ?_; rintro e w3 ⟨rfl, hb3⟩)
        go_ret
        exact ⟨rfl, below_go (below_go hBw hBw.size hB) (by have := hBw.size; have := hB.size; omega) hb3⟩
end Go.Proofs.Ytokeanadhihlfaa
