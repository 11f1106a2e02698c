/-
  Contracts: Join of the program.
-/
import Derived.Test.YtokeanadhihlfaaF8
namespace Go.Proofs.Ytokeanadhihlfaa
open Go.RowKit

theorem Blk.of_alloc {w W : World} {o : Obj} {g : Nat} {t : TypeId} {cs : Array Value} (hW : w.alloc o = W) (b : Blk w g t cs) : Blk W g t cs := by subst hW; exact b.alloc _

theorem own_len {w : World} {base : Nat} {e : TypeId} {size n n' c : Nat} {D : Option Addr} {xs : List Value} (hn : n = n') (h : w.ownsRow base e size (.slice D n c) n xs) : w.ownsRow base e size (.slice D n' c) n' xs := by subst hn; exact h

def sizeJ (f : Pk) (i : Nat) (b : List UInt8) : Int := min (f.len - b.length) (if i = 0 then 57 else 59)
def badJ (f p : Pk) (i : Nat) : Bool := decide (0 < i) && (p.first || (decide (p.ch ≠ f.ch) || decide (p.seq ≠ (i : Int) - 1)))
def joinFrom (f : Pk) (ps : List Pk) : Nat → Nat → List UInt8 → Int × List UInt8 × Int × Int
  | 0, i, b => (f.cmd, b, i, 0)
  | k + 1, i, b =>
    match ps[i]? with
    | none => (0, [], 0, 1)
    | some p =>
      if badJ f p i = true then (0, [], 0, 33)
      else if (p.data.length : Int) < sizeJ f i b then (0, [], 0, 2) else joinFrom f ps k (i + 1) (b ++ p.data.take (sizeJ f i b).toNat)
def joinL (ps : List Pk) : Int × List UInt8 × Int × Int :=
  match ps with
  | [] => (0, [], 0, 1)
  | f :: _ => if f.first = false then (0, [], 0, 3) else if f.len < 0 ∨ 4096 < f.len then (0, [], 0, 8) else joinFrom f ps (countI f.len).toNat 0 []

def JoinPost (w : World) (r : Int × List UInt8 × Int × Int) (e : Ending) (w' : World) : Prop :=
  ∃ (A : Option Addr) (c : Nat), e = .returned (.tuple #[.int .i64 r.1, .slice A r.2.1.length c, .int .i64 r.2.2.1, .int .i64 r.2.2.2]) ∧ SB w' (Lt w'.heap.size) A c r.2.1 ∧ Below w.heap.size w w'
theorem joinPost_err {w w' : World} (x : Int) (hb : Below w.heap.size w w') : JoinPost w (0, [], 0, x) (.returned (.tuple #[.int .i64 0, .slice none 0 0, .int .i64 0, .int .i64 x])) w' :=
  ⟨none, 0, rfl, SB.nil _ _, hb⟩

theorem own_ne_blk {w : World} {base : Nat} {e : TypeId} {size n : Nat} {v : Value} {xs : List Value} {g : Nat} {t : TypeId} {cs : Array Value} (h : w.ownsRow base e size v n xs) (hg : Blk w g t cs) (hne : e ≠ t) : some g ≠ v.ownBlock := by
  rcases h.2 with ⟨rfl, _⟩ | ⟨g', cap, cur, rfl, _, hh, _⟩
  · simp [Value.ownBlock]
  · intro he
    have : g = g' := by simpa [Value.ownBlock] using he
    subst this
    unfold Blk at hg
    rw [hg] at hh
    injection hh with hh
    injection hh with _ ht
    exact hne ht.symm

/-- The cells of element i, as the walk writes their places. -/
theorem SP.cells {w : World} {S : Nat → Prop} {A : Option Addr} {c : Nat} {ps : List Pk} (h : SP w S A c ps) {i : Nat} {p : Pk} (hp : ps[i]? = some p) :
    ∃ b off A' c', A = some ⟨b, off, none⟩ ∧ S b ∧ SB w S A' c' p.data ∧ w.cell? ⟨b, off + i * 6, none⟩ = some (.int .u32 p.ch) ∧ w.cell? ⟨b, off + i * 6 + 1, none⟩ = some (.bool p.first) ∧
      w.cell? ⟨b, off + i * 6 + 2, none⟩ = some (.int .i64 p.cmd) ∧ w.cell? ⟨b, off + i * 6 + 3, none⟩ = some (.int .i64 p.len) ∧ w.cell? ⟨b, off + i * 6 + 4, none⟩ = some (.int .i64 p.seq) ∧
      w.cell? ⟨b, off + i * 6 + 5, none⟩ = some (.slice A' p.data.length c') := by
  obtain ⟨b, off, A', c', hA, hb, hs, hc⟩ := h.at_ hp
  exact ⟨b, off, A', c', hA, hb, hs, hc 0 _ rfl, hc 1 _ rfl, hc 2 _ rfl, hc 3 _ rfl, hc 4 _ rfl, hc 5 _ rfl⟩

theorem countI_bounds {n : Int} (h0 : 0 ≤ n) (h1 : n ≤ 4096) : 1 ≤ countI n ∧ countI n ≤ 70 := by
  unfold countI
  rw [if_neg (by omega)]
  split <;> omega

def JoinIn (w : World) (f : Pk) (ps : List Pk) (A' : Option Addr) (c' : Nat) (n : Nat) (m : Int) (bv i : Value) (wr : World) : Prop :=
  ∃ (k : Nat) (bs : List UInt8) (D : Option Addr) (cap : Nat), i = .int .i64 k ∧ bv = .slice D bs.length cap ∧ k ≤ n ∧ (k : Int) ≤ m ∧ (bs.length : Int) ≤ f.len ∧ Hid (joinFrom f (f :: ps) (m.toNat - k) k bs = joinL (f :: ps)) ∧
    wr.ownsRow w.heap.size 5 1 (.slice D bs.length cap) bs.length (bs.map BV) ∧ Blk wr w.heap.size 38 (pkC f A' c').toArray ∧ Below w.heap.size w wr
set_option maxRecDepth 100000 in
set_option maxHeartbeats 4000000 in
theorem join_in (A : Option Addr) (c : Nat) (f : Pk) (ps : List Pk) (w : World) (hs : SP w (Lt w.heap.size) A c (f :: ps)) (_hl : (f :: ps).length ≤ 1000000) (hd : ∀ p ∈ f :: ps, p.data.length ≤ 1000000) (h1 : f.first = true) (h2 : 0 ≤ f.len) (h3 : f.len ≤ 4096) :
    Calls Try.prog 28 #[.slice A (f :: ps).length c] w (JoinPost w (joinL (f :: ps))) := by
  obtain ⟨b, off, A', c', rfl, hb, hf, q0, q1, q2, q3, q4, q5⟩ := hs.cells (i := 0) (p := f) rfl
  simp only [Nat.zero_mul, Nat.add_zero] at q0 q1 q2 q3 q4 q5
  obtain ⟨n, hn⟩ : ∃ n, n = (f :: ps).length := ⟨_, rfl⟩
  have HN := Lib.hid hn
  have hn0 : ((n : Int) == 0) = false := by rw [hn]; simp <;> omega
  have hn1 : (0 : Int) < (n : Int) := by rw [hn]; simp <;> omega
  rw [← hn]
  clear hn
  go_enter Try.func28, Try.ntmps28
  go_wp2_with (go_at_call 19; refine (count_ok _ _).mono ?_; rintro e w' ⟨rfl, rfl⟩)
  obtain ⟨m, hm⟩ : ∃ m, m = countI f.len := ⟨_, rfl⟩
  have HM := Lib.hid hm
  have hmb : 1 ≤ m ∧ m ≤ 70 := by rw [hm]; exact countI_bounds h2 h3
  have hj : joinFrom f (f :: ps) (m.toNat - 0) 0 [] = joinL (f :: ps) := by
    simp only [joinL, h1, hm]
    rw [if_neg (by simp), if_neg (by omega)]
    rfl
  have HJ := Lib.hid hj
  rw [← hm]
  clear hm hj
  generalize hW : World.alloc w _ = W
  obtain ⟨hB, b1⟩ := boxes1 hW
  clear hW
  go_loopw [3, 34] (fun bv i wr => JoinIn w f ps A' c' n m bv i wr) (fun _ i _ => 70 - (intOf i).toNat)
  case atStart =>
    refine ⟨0, [], none, 0, rfl, rfl, Nat.zero_le _, by omega, by simpa using h2, HJ, World.ownsRow_nil _ _ _ _, ?_, hB⟩
    rw [pkC, h1]
    exact b1
  case round =>
    obtain ⟨k, bs, D, cap, rfl, rfl, hkn, hkm, hbl, HI, ho, b1, hB⟩ := hrel
    have hk70 : k ≤ 70 := by omega
    by_cases hkm' : (k : Int) < m
    · by_cases hk : k < n
      · have hki : (k : Int) < (n : Int) := by omega
        have hki' : ((k : Int) == (n : Int)) = false := by simp; omega
        obtain ⟨p, hp⟩ : ∃ p, (f :: ps)[k]? = some p := ⟨_, List.getElem?_eq_getElem (by have := HN.out; omega)⟩
        obtain ⟨b', off', A2, c2, e2, hb2, hpd, r0, r1, r2, r3, r4, r5⟩ := hs.cells hp
        injection e2 with e2
        injection e2 with e21 e22
        subst e21 e22
        obtain ⟨t, ht⟩ : ∃ t, m.toNat - k = t + 1 := ⟨m.toNat - k - 1, by omega⟩
        have hJ := HI.out
        rw [ht] at hJ
        simp only [joinFrom, hp] at hJ
        have bcell : ∀ o, wr.cell? ⟨b, o, none⟩ = w.cell? ⟨b, o, none⟩ := fun o => hB.cell (p := ⟨b, o, none⟩) hb2
        rw [← bcell] at r0 r1 r2 r3 r4 r5
        clear bcell q0 q1 q2 q3 q4 q5
        simp only [pkC] at b1
        obtain ⟨c1, f1, l1⟩ := b1.facts
        have hdl : p.data.length ≤ 1000000 := hd p (List.mem_of_getElem? hp)
        by_cases hbad : badJ f p k = true
        · rw [if_pos hbad] at hJ
          have HF := Lib.hid hJ
          clear hJ
          have hk0 : (0 : Int) < (k : Int) := by simp [badJ] at hbad; omega
          rcases (show p.first = true ∨ (p.first = false ∧ (p.ch != f.ch) = true) ∨ (p.first = false ∧ (p.ch != f.ch) = false ∧ (p.seq != (k : Int) - 1) = true) by
            simp [badJ] at hbad
            cases hf1 : p.first with
            | true => exact .inl rfl
            | false =>
              rw [hf1] at hbad
              by_cases hc1 : p.ch = f.ch
              · exact .inr (.inr ⟨rfl, by simpa using hc1, by simpa [hc1] using hbad.2⟩)
              · exact .inr (.inl ⟨rfl, by simpa using hc1⟩)) with g1 | ⟨g1, g2⟩ | ⟨g1, g2, g3⟩
          all_goals
            clear hbad
            go_wp2
            refine bodyPost_ret (res_tttt rfl) rfl ?_
            rw [← HF.out]
            exact joinPost_err 33 (hB.alloc hB.size _)
        · rw [if_neg hbad] at hJ
          have HJ1 := Lib.hid hJ
          clear hJ
          rcases (show k = 0 ∨ (((k : Int) == 0) = false ∧ (0 : Int) < (k : Int) ∧ p.first = false ∧ (p.ch != f.ch) = false ∧ (p.seq != (k : Int) - 1) = false) by
            by_cases h0 : k = 0
            · exact .inl h0
            · simp [badJ] at hbad
              have hb := hbad (by omega)
              exact .inr ⟨by simp; omega, by omega, hb.1, by simpa using hb.2.1, by simpa using hb.2.2⟩) with g0 | ⟨g1, g2, g3, g4, g5⟩
          · subst g0
            clear hbad
            simp only [Nat.zero_mul, Nat.add_zero] at r0 r1 r2 r3 r4 r5
            go_wp2_with fail
            generalize hW : World.alloc wr _ = W2
            obtain ⟨hB2, b2⟩ := boxes1 hW
            have b1' := Blk.of_alloc hW b1
            clear hW
            have hB3 := below_go hB hB.size hB2
            have ho2 := own_below ho hB2
            have hwr : IntKind.i64.wrap (f.len - (bs.length : Int)) = f.len - (bs.length : Int) := IntWalk.i64_in _ (by omega)
            rcases (show f.len - (bs.length : Int) ≤ 57 ∨ (57 : Int) < f.len - (bs.length : Int) by omega) with hmn | hmn
            · refine wp_draw (fun _ => False) [([0, 1, 2, 3, 4, 5, 6], some (7, true)), ([8, 9], none)] #[0, 1, 0, 4, 15, 0, 32, 96, 255, 511] (by kernel_rfl) (by kernel_rfl) (fun _ _ _ d _ h => by cases d <;> exact h) ?_
              apply lin_true
              · intro w' hx
                obtain ⟨k1, -, -⟩ := (b1'.ext (w := W2.drew) hx id).facts
                simp only [List.map_cons, List.map_nil, opAt, Array.getD_eq_getD_getElem?, List.getElem?_toArray, List.getElem?_cons_succ, List.getElem?_cons_zero, Option.getD_some]
                repeat still_step
                exact wpStill_nil rfl
              clear hwr
              simp only [opAt, Array.getD_eq_getD_getElem?, List.getElem?_toArray, List.getElem?_cons_succ, List.getElem?_cons_zero, Option.getD_some]
              go_wp2_with (go_at_call 54; refine (capacity_true _).mono ?_; rintro e w' ⟨rfl, rfl⟩)
              refine ⟨Ext.refl _ _, ?_⟩
              apply lin_none
              · intro w' hx
                clear hx
                simp only [List.map_cons, List.map_nil, opAt, Array.getD_eq_getD_getElem?, List.getElem?_toArray, List.getElem?_cons_succ, List.getElem?_cons_zero, Option.getD_some]
                repeat still_step
                exact wpStill_nil rfl
              refine lin_done ?_
              have HZ := Lib.hid (show sizeJ f 0 bs = (f.len - (bs.length : Int)) by unfold sizeJ; simp ; omega)
              have hz0 : 0 ≤ (f.len - (bs.length : Int)) := by omega
              have hz2 : (bs.length : Int) + (f.len - (bs.length : Int)) ≤ f.len := by omega
              obtain ⟨c3, f3, l3⟩ := (b2.drew).facts
              obtain ⟨c4, f4, l4⟩ := (b1'.drew).facts
              clear c1 f1 l1 r0 r1 r2 r3 r4 r5
              by_cases hsh : (p.data.length : Int) < (f.len - (bs.length : Int))
              · have hJ := HJ1.out
                rw [HZ.out, if_pos hsh] at hJ
                have HF := Lib.hid hJ
                clear hJ
                go_wp2
                refine bodyPost_ret (res_tttt rfl) rfl ?_
                rw [← HF.out]
                exact joinPost_err 2 hB3.drew
              · have hJ := HJ1.out
                rw [HZ.out, if_neg hsh] at hJ
                have HF := Lib.hid hJ
                clear hJ
                have hpc := hpd.cap
                have hzc : (f.len - (bs.length : Int)) ≤ (c2 : Int) := by omega
                have hz3 := hB3.size
                have sp : SB W2.drew (Lt w.heap.size) A2 c2 (p.data.take (f.len - (bs.length : Int)).toNat) := ((hpd.below hB3).drew).take' _
                have spl := Lib.hid (show (p.data.take (f.len - (bs.length : Int)).toNat).length = (f.len - (bs.length : Int)).toNat by simp; omega)
                go_wp2_with (at_builtin; refine wpl_append rfl _ _ 28 rfl elB w.heap.size (v := .slice D bs.length cap) rfl ho2 rfl sp.row (by have := spl.out; simp at this ⊢; omega) (map_BV_one _) (by unfold maxLen; omega) (by omega) hz3 ?_; intro D' cap' w4 ho' hg' _)
                have e4 : (bs ++ p.data.take (f.len - (bs.length : Int)).toNat).length = bs.length + (f.len - (bs.length : Int)).toNat := by rw [List.length_append, spl.out]
                go_roundw
                case rel =>
                  refine ⟨0 + 1, bs ++ p.data.take (f.len - (bs.length : Int)).toNat, D', cap', by go_num, slice_len (by rw [e4]; omega), by omega, by omega, by rw [e4]; omega, Lib.hid ?_, ?_, ?_, hB3.drew.grown hg' hz3 (fun g hg => (ho2.lt g hg).1)⟩
                  · rw [show m.toNat - (0 + 1) = t by omega]
                    exact HF.out
                  · rw [e4, List.map_append]
                    exact own_len (by omega) ho'
                  · exact (b1'.drew).grown hg' (own_ne_blk ho2 b1' (by decide))
                case measure => simp [intOf] <;> omega
            · refine wp_draw (fun _ => False) [([0, 1, 2, 3, 4, 5, 6], some (7, true)), ([8, 9], none)] #[0, 1, 0, 4, 15, 0, 32, 96, 255, 511] (by kernel_rfl) (by kernel_rfl) (fun _ _ _ d _ h => by cases d <;> exact h) ?_
              apply lin_true
              · intro w' hx
                obtain ⟨k1, -, -⟩ := (b1'.ext (w := W2.drew) hx id).facts
                simp only [List.map_cons, List.map_nil, opAt, Array.getD_eq_getD_getElem?, List.getElem?_toArray, List.getElem?_cons_succ, List.getElem?_cons_zero, Option.getD_some]
                repeat still_step
                exact wpStill_nil rfl
              clear hwr
              simp only [opAt, Array.getD_eq_getD_getElem?, List.getElem?_toArray, List.getElem?_cons_succ, List.getElem?_cons_zero, Option.getD_some]
              go_wp2_with (go_at_call 54; refine (capacity_true _).mono ?_; rintro e w' ⟨rfl, rfl⟩)
              refine ⟨Ext.refl _ _, ?_⟩
              apply lin_none
              · intro w' hx
                clear hx
                simp only [List.map_cons, List.map_nil, opAt, Array.getD_eq_getD_getElem?, List.getElem?_toArray, List.getElem?_cons_succ, List.getElem?_cons_zero, Option.getD_some]
                repeat still_step
                exact wpStill_nil rfl
              refine lin_done ?_
              have HZ := Lib.hid (show sizeJ f 0 bs = (57 : Int) by unfold sizeJ; simp ; omega)
              have hz0 : 0 ≤ (57 : Int) := by omega
              have hz2 : (bs.length : Int) + (57 : Int) ≤ f.len := by omega
              obtain ⟨c3, f3, l3⟩ := (b2.drew).facts
              obtain ⟨c4, f4, l4⟩ := (b1'.drew).facts
              clear c1 f1 l1 r0 r1 r2 r3 r4 r5
              by_cases hsh : (p.data.length : Int) < (57 : Int)
              · have hJ := HJ1.out
                rw [HZ.out, if_pos hsh] at hJ
                have HF := Lib.hid hJ
                clear hJ
                go_wp2
                refine bodyPost_ret (res_tttt rfl) rfl ?_
                rw [← HF.out]
                exact joinPost_err 2 hB3.drew
              · have hJ := HJ1.out
                rw [HZ.out, if_neg hsh] at hJ
                have HF := Lib.hid hJ
                clear hJ
                have hpc := hpd.cap
                have hzc : (57 : Int) ≤ (c2 : Int) := by omega
                have hz3 := hB3.size
                have sp : SB W2.drew (Lt w.heap.size) A2 c2 (p.data.take (57 : Int).toNat) := ((hpd.below hB3).drew).take' _
                have spl := Lib.hid (show (p.data.take (57 : Int).toNat).length = (57 : Int).toNat by simp; omega)
                go_wp2_with (at_builtin; refine wpl_append rfl _ _ 28 rfl elB w.heap.size (v := .slice D bs.length cap) rfl ho2 rfl sp.row (by have := spl.out; simp at this ⊢; omega) (map_BV_one _) (by unfold maxLen; omega) (by omega) hz3 ?_; intro D' cap' w4 ho' hg' _)
                have e4 : (bs ++ p.data.take (57 : Int).toNat).length = bs.length + (57 : Int).toNat := by rw [List.length_append, spl.out]
                go_roundw
                case rel =>
                  refine ⟨0 + 1, bs ++ p.data.take (57 : Int).toNat, D', cap', by go_num, slice_len (by rw [e4]; omega), by omega, by omega, by rw [e4]; omega, Lib.hid ?_, ?_, ?_, hB3.drew.grown hg' hz3 (fun g hg => (ho2.lt g hg).1)⟩
                  · rw [show m.toNat - (0 + 1) = t by omega]
                    exact HF.out
                  · rw [e4, List.map_append]
                    exact own_len (by omega) ho'
                  · exact (b1'.drew).grown hg' (own_ne_blk ho2 b1' (by decide))
                case measure => simp [intOf] <;> omega
          · clear hbad
            go_wp2_with fail
            generalize hW : World.alloc wr _ = W2
            obtain ⟨hB2, b2⟩ := boxes1 hW
            have b1' := Blk.of_alloc hW b1
            clear hW
            have hB3 := below_go hB hB.size hB2
            have ho2 := own_below ho hB2
            have hwr : IntKind.i64.wrap (f.len - (bs.length : Int)) = f.len - (bs.length : Int) := IntWalk.i64_in _ (by omega)
            rcases (show f.len - (bs.length : Int) ≤ 59 ∨ (59 : Int) < f.len - (bs.length : Int) by omega) with hmn | hmn
            · refine wp_draw (fun _ => False) [([0, 1, 2, 3, 4, 5, 6], some (7, true)), ([8, 9], none)] #[0, 1, 0, 4, 15, 0, 32, 96, 255, 511] (by kernel_rfl) (by kernel_rfl) (fun _ _ _ d _ h => by cases d <;> exact h) ?_
              apply lin_true
              · intro w' hx
                obtain ⟨k1, -, -⟩ := (b1'.ext (w := W2.drew) hx id).facts
                simp only [List.map_cons, List.map_nil, opAt, Array.getD_eq_getD_getElem?, List.getElem?_toArray, List.getElem?_cons_succ, List.getElem?_cons_zero, Option.getD_some]
                repeat still_step
                exact wpStill_nil rfl
              clear hwr
              simp only [opAt, Array.getD_eq_getD_getElem?, List.getElem?_toArray, List.getElem?_cons_succ, List.getElem?_cons_zero, Option.getD_some]
              go_wp2_with (go_at_call 54; refine (capacity_false _).mono ?_; rintro e w' ⟨rfl, rfl⟩)
              refine ⟨Ext.refl _ _, ?_⟩
              apply lin_none
              · intro w' hx
                clear hx
                simp only [List.map_cons, List.map_nil, opAt, Array.getD_eq_getD_getElem?, List.getElem?_toArray, List.getElem?_cons_succ, List.getElem?_cons_zero, Option.getD_some]
                repeat still_step
                exact wpStill_nil rfl
              refine lin_done ?_
              have HZ := Lib.hid (show sizeJ f k bs = (f.len - (bs.length : Int)) by unfold sizeJ; simp [show ¬ k = 0 by omega]; omega)
              have hz0 : 0 ≤ (f.len - (bs.length : Int)) := by omega
              have hz2 : (bs.length : Int) + (f.len - (bs.length : Int)) ≤ f.len := by omega
              obtain ⟨c3, f3, l3⟩ := (b2.drew).facts
              obtain ⟨c4, f4, l4⟩ := (b1'.drew).facts
              clear c1 f1 l1 r0 r1 r2 r3 r4 r5
              by_cases hsh : (p.data.length : Int) < (f.len - (bs.length : Int))
              · have hJ := HJ1.out
                rw [HZ.out, if_pos hsh] at hJ
                have HF := Lib.hid hJ
                clear hJ
                go_wp2
                refine bodyPost_ret (res_tttt rfl) rfl ?_
                rw [← HF.out]
                exact joinPost_err 2 hB3.drew
              · have hJ := HJ1.out
                rw [HZ.out, if_neg hsh] at hJ
                have HF := Lib.hid hJ
                clear hJ
                have hpc := hpd.cap
                have hzc : (f.len - (bs.length : Int)) ≤ (c2 : Int) := by omega
                have hz3 := hB3.size
                have sp : SB W2.drew (Lt w.heap.size) A2 c2 (p.data.take (f.len - (bs.length : Int)).toNat) := ((hpd.below hB3).drew).take' _
                have spl := Lib.hid (show (p.data.take (f.len - (bs.length : Int)).toNat).length = (f.len - (bs.length : Int)).toNat by simp; omega)
                go_wp2_with (at_builtin; refine wpl_append rfl _ _ 28 rfl elB w.heap.size (v := .slice D bs.length cap) rfl ho2 rfl sp.row (by have := spl.out; simp at this ⊢; omega) (map_BV_one _) (by unfold maxLen; omega) (by omega) hz3 ?_; intro D' cap' w4 ho' hg' _)
                have e4 : (bs ++ p.data.take (f.len - (bs.length : Int)).toNat).length = bs.length + (f.len - (bs.length : Int)).toNat := by rw [List.length_append, spl.out]
                go_roundw
                case rel =>
                  refine ⟨k + 1, bs ++ p.data.take (f.len - (bs.length : Int)).toNat, D', cap', by go_num, slice_len (by rw [e4]; omega), by omega, by omega, by rw [e4]; omega, Lib.hid ?_, ?_, ?_, hB3.drew.grown hg' hz3 (fun g hg => (ho2.lt g hg).1)⟩
                  · rw [show m.toNat - (k + 1) = t by omega]
                    exact HF.out
                  · rw [e4, List.map_append]
                    exact own_len (by omega) ho'
                  · exact (b1'.drew).grown hg' (own_ne_blk ho2 b1' (by decide))
                case measure => simp [intOf] <;> omega
            · refine wp_draw (fun _ => False) [([0, 1, 2, 3, 4, 5, 6], some (7, true)), ([8, 9], none)] #[0, 1, 0, 4, 15, 0, 32, 96, 255, 511] (by kernel_rfl) (by kernel_rfl) (fun _ _ _ d _ h => by cases d <;> exact h) ?_
              apply lin_true
              · intro w' hx
                obtain ⟨k1, -, -⟩ := (b1'.ext (w := W2.drew) hx id).facts
                simp only [List.map_cons, List.map_nil, opAt, Array.getD_eq_getD_getElem?, List.getElem?_toArray, List.getElem?_cons_succ, List.getElem?_cons_zero, Option.getD_some]
                repeat still_step
                exact wpStill_nil rfl
              clear hwr
              simp only [opAt, Array.getD_eq_getD_getElem?, List.getElem?_toArray, List.getElem?_cons_succ, List.getElem?_cons_zero, Option.getD_some]
              go_wp2_with (go_at_call 54; refine (capacity_false _).mono ?_; rintro e w' ⟨rfl, rfl⟩)
              refine ⟨Ext.refl _ _, ?_⟩
              apply lin_none
              · intro w' hx
                clear hx
                simp only [List.map_cons, List.map_nil, opAt, Array.getD_eq_getD_getElem?, List.getElem?_toArray, List.getElem?_cons_succ, List.getElem?_cons_zero, Option.getD_some]
                repeat still_step
                exact wpStill_nil rfl
              refine lin_done ?_
              have HZ := Lib.hid (show sizeJ f k bs = (59 : Int) by unfold sizeJ; simp [show ¬ k = 0 by omega]; omega)
              have hz0 : 0 ≤ (59 : Int) := by omega
              have hz2 : (bs.length : Int) + (59 : Int) ≤ f.len := by omega
              obtain ⟨c3, f3, l3⟩ := (b2.drew).facts
              obtain ⟨c4, f4, l4⟩ := (b1'.drew).facts
              clear c1 f1 l1 r0 r1 r2 r3 r4 r5
              by_cases hsh : (p.data.length : Int) < (59 : Int)
              · have hJ := HJ1.out
                rw [HZ.out, if_pos hsh] at hJ
                have HF := Lib.hid hJ
                clear hJ
                go_wp2
                refine bodyPost_ret (res_tttt rfl) rfl ?_
                rw [← HF.out]
                exact joinPost_err 2 hB3.drew
              · have hJ := HJ1.out
                rw [HZ.out, if_neg hsh] at hJ
                have HF := Lib.hid hJ
                clear hJ
                have hpc := hpd.cap
                have hzc : (59 : Int) ≤ (c2 : Int) := by omega
                have hz3 := hB3.size
                have sp : SB W2.drew (Lt w.heap.size) A2 c2 (p.data.take (59 : Int).toNat) := ((hpd.below hB3).drew).take' _
                have spl := Lib.hid (show (p.data.take (59 : Int).toNat).length = (59 : Int).toNat by simp; omega)
                go_wp2_with (at_builtin; refine wpl_append rfl _ _ 28 rfl elB w.heap.size (v := .slice D bs.length cap) rfl ho2 rfl sp.row (by have := spl.out; simp at this ⊢; omega) (map_BV_one _) (by unfold maxLen; omega) (by omega) hz3 ?_; intro D' cap' w4 ho' hg' _)
                have e4 : (bs ++ p.data.take (59 : Int).toNat).length = bs.length + (59 : Int).toNat := by rw [List.length_append, spl.out]
                go_roundw
                case rel =>
                  refine ⟨k + 1, bs ++ p.data.take (59 : Int).toNat, D', cap', by go_num, slice_len (by rw [e4]; omega), by omega, by omega, by rw [e4]; omega, Lib.hid ?_, ?_, ?_, hB3.drew.grown hg' hz3 (fun g hg => (ho2.lt g hg).1)⟩
                  · rw [show m.toNat - (k + 1) = t by omega]
                    exact HF.out
                  · rw [e4, List.map_append]
                    exact own_len (by omega) ho'
                  · exact (b1'.drew).grown hg' (own_ne_blk ho2 b1' (by decide))
                case measure => simp [intOf] <;> omega
      · have hk' : k = n := by omega
        subst hk'
        have hki' : ((k : Int) == (k : Int)) = true := by simp
        have hJ := HI.out
        have hz : (f :: ps)[k]? = none := List.getElem?_eq_none (by have := HN.out; omega)
        obtain ⟨t, ht⟩ : ∃ t, m.toNat - k = t + 1 := ⟨m.toNat - k - 1, by omega⟩
        rw [ht] at hJ
        simp only [joinFrom, hz] at hJ
        have HF := Lib.hid hJ
        clear hJ hz ht
        go_wp2
        refine bodyPost_ret (res_tttt rfl) rfl ?_
        rw [← HF.out]
        exact joinPost_err 1 hB
    · have hk' : (k : Int) = m := by omega
      have hJ := HI.out
      have ht : m.toNat - k = 0 := by omega
      rw [ht] at hJ
      simp only [joinFrom] at hJ
      have HF := Lib.hid hJ
      clear hJ ht
      simp only [pkC] at b1
      obtain ⟨c1, f1, l1⟩ := b1.facts
      go_wp2
      refine bodyPost_ret (res_tttt rfl) rfl ?_
      rw [← HF.out]
      refine ⟨D, cap, ?_, SB.of_own ho, hB⟩
      rw [hk']
      rfl
end Go.Proofs.Ytokeanadhihlfaa
