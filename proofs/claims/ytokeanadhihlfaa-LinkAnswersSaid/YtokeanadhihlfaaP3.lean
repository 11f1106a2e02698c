/-
  The packets of a message, also with filled data and with others behind them, are joined to that message. No program in sight.
-/
import Derived.Test.YtokeanadhihlfaaP2
set_option linter.all false
namespace Go.Proofs.Ytokeanadhihlfaa.V
open Go

theorem conts_get (ch : Int) : ∀ (f : Nat) (q : Int) (r : List Int), r.length ≤ f → ∀ i, (contF ch f q r)[i]? = if 59 * i < r.length then some ⟨ch, 0, 0, q + i, false, (r.drop (59 * i)).take 59⟩ else none
  | 0, q, r, h, i => by rw [if_neg (by omega)]; simp [contF]
  | f + 1, q, r, h, i => by
    simp only [contF]
    split
    · rw [if_neg (by omega)]; simp
    · rename_i h0
      cases i with
      | zero => rw [if_pos (by omega)]; simp
      | succ i =>
        rw [List.getElem?_cons_succ, conts_get ch f (q + 1) (r.drop 59) (by simp; omega) i]
        simp only [List.length_drop, List.drop_drop]
        by_cases hl : 59 * (i + 1) < r.length
        · rw [if_pos (by omega), if_pos hl, show 59 + 59 * i = 59 * (i + 1) by omega, show q + 1 + (i : Int) = q + ((i + 1 : Nat) : Int) by omega]
        · rw [if_neg (by omega), if_neg hl]
theorem contF_len (ch : Int) : ∀ (f : Nat) (q : Int) (r : List Int), r.length ≤ f → (contF ch f q r).length = (r.length + 58) / 59
  | 0, q, r, h => by simp [contF]; omega
  | f + 1, q, r, h => by
    simp only [contF]
    split
    · simp; omega
    · rw [List.length_cons, contF_len ch f (q + 1) (r.drop 59) (by simp; omega), List.length_drop]
      omega
/-- Where the data of packet i begins. -/
def offs : Nat → Nat
  | 0 => 0
  | i + 1 => 57 + 59 * i
theorem split_len (ch cmd : Int) (b : List Int) (h : splitE cmd b.length = 0) : ((splitL ch cmd b).length : Int) = countI b.length := by
  have hb : 1 ≤ cmd ∧ cmd ≤ 127 ∧ b.length ≤ 4096 := by
    unfold splitE at h
    (repeat' split at h) <;> omega
  rw [splitL, if_neg (by rw [h]; decide), List.length_cons, conts, contF_len ch _ 0 _ (Nat.le_refl _), List.length_drop, countI, if_neg (by omega)]
  split <;> omega
/-- Packet i. -/
def spP (ch cmd : Int) (b : List Int) : Nat → Rec
  | 0 => ⟨ch, cmd, b.length, 0, true, b.take 57⟩
  | j + 1 => ⟨ch, 0, 0, j, false, (b.drop (57 + 59 * j)).take 59⟩
theorem split_cons (ch cmd : Int) (b : List Int) (h : splitE cmd b.length = 0) : splitL ch cmd b = ⟨ch, cmd, b.length, 0, true, b.take 57⟩ :: conts ch 0 (b.drop 57) := by
  unfold splitL
  rw [if_neg (by rw [h]; decide)]
theorem split_get (ch cmd : Int) (b : List Int) (h : splitE cmd b.length = 0) (i : Nat) (hi : i < (splitL ch cmd b).length) :
    (splitL ch cmd b)[i]? = some (spP ch cmd b i) ∧ (i = 0 ∨ offs i < b.length) := by
  rw [split_cons ch cmd b h] at hi ⊢
  cases i with
  | zero => exact ⟨rfl, .inl rfl⟩
  | succ j =>
    have hl : j < (conts ch 0 (b.drop 57)).length := by simpa using hi
    rw [conts, contF_len ch _ 0 _ (Nat.le_refl _), List.length_drop] at hl
    rw [List.getElem?_cons_succ, conts, conts_get ch _ 0 _ (Nat.le_refl _) j]
    simp only [List.length_drop, List.drop_drop, offs]
    rw [if_pos (by omega)]
    exact ⟨by simp [spP], .inr (by omega)⟩
theorem split_ok (ch cmd : Int) (b : List Int) (hb : RngL .u8 b) (hch : inK .u32 ch = true) (h : splitE cmd b.length = 0) : ∀ r ∈ splitL ch cmd b, okR r ∧ RngR 0 r ∧ r.a = ch ∧ r.s.length ≤ 59 := by
  have hb' : 1 ≤ cmd ∧ cmd ≤ 127 ∧ b.length ≤ 4096 := by
    unfold splitE at h
    (repeat' split at h) <;> omega
  intro r hr
  obtain ⟨i, hi⟩ := List.getElem?_of_mem hr
  have hlt := (List.getElem?_eq_some_iff.1 hi).1
  have hn := split_len ch cmd b h
  have hc := count_div (c := b.length) (by omega) (by omega)
  obtain ⟨h1, h2⟩ := split_get ch cmd b h i hlt
  rw [hi] at h1
  cases i with
  | zero =>
    obtain rfl : r = ⟨ch, cmd, b.length, 0, true, b.take 57⟩ := by simpa [spP] using h1
    refine ⟨?_, ⟨hch, (show inK .i64 cmd = true by rw [in_i64]; omega), (show inK .i64 (b.length : Int) = true by rw [in_i64]; omega), (show inK .i64 0 = true by decide), fun n hn => hb n (List.mem_of_mem_take hn), by simp [maxLen]; omega⟩, rfl, by simp; omega⟩
    simp only [okR, chkE]
    rw [if_neg (by omega), if_neg (by decide), if_neg (by simp; omega)]
  | succ j =>
    obtain rfl : r = ⟨ch, 0, 0, j, false, (b.drop (57 + 59 * j)).take 59⟩ := by simpa [spP] using h1
    refine ⟨?_, ⟨hch, (show inK .i64 0 = true by decide), (show inK .i64 0 = true by decide), (show inK .i64 (j : Int) = true by rw [in_i64]; omega), fun n hn => hb n (List.mem_of_mem_drop (List.mem_of_mem_take hn)), by simp [maxLen]; omega⟩, rfl, by simp; omega⟩
    simp only [okR, chkE]
    rw [if_neg (by omega), if_neg (by decide), if_neg (by simp; omega)]
theorem join_on (ch cmd : Int) (b : List Int) (h : splitE cmd b.length = 0) (tail : List Rec) : ∀ (k i : Nat), i + k = (splitL ch cmd b).length → joinF ch b.length ((splitL ch cmd b).map padR ++ tail) k i (b.take (offs i)) = (b, 0)
  | 0, i, hk => by
    have hn := split_len ch cmd b h
    have hb : 1 ≤ cmd ∧ cmd ≤ 127 ∧ b.length ≤ 4096 := by
      unfold splitE at h
      (repeat' split at h) <;> omega
    have hc := count_div (c := b.length) (by omega) (by omega)
    simp only [joinF]
    rw [List.take_of_length_le]
    cases i with
    | zero => omega
    | succ j => simp only [offs]; omega
  | k + 1, i, hk => by
    have hi : i < (splitL ch cmd b).length := by omega
    obtain ⟨h1, h2⟩ := split_get ch cmd b h i hi
    have hg : ((splitL ch cmd b).map padR ++ tail).getD i default = padR (spP ch cmd b i) := by
      rw [List.getD, List.getElem?_append_left (by simpa using hi), List.getElem?_map, h1]
      rfl
    have hrec := join_on ch cmd b h tail k (i + 1) (by omega)
    simp only [joinF]
    rw [if_neg (by simp; omega), hg]
    cases i with
    | zero =>
      rw [if_neg (by simp [badJ])]
      simp only [spP, padR, sizeJ, offs, List.take_zero, List.length_nil, List.nil_append, List.length_append, List.length_replicate, List.length_take]
      have hm := imin_le b.length 57 (by omega)
      rw [if_pos trivial, show (b.length : Int) - ((0 : Nat) : Int) = b.length by omega]
      rw [if_neg (by omega)]
      rw [List.take_append_of_le_length (by simp; unfold imin; split <;> omega), List.take_take]
      have hrec' : joinF ch b.length ((splitL ch cmd b).map padR ++ tail) k 1 (b.take 57) = (b, 0) := hrec
      rw [show b.take (min (imin (b.length : Int) 57).toNat 57) = b.take 57 by
        unfold imin
        split
        · rfl
        · rw [List.take_of_length_le (by omega), List.take_of_length_le (by omega)]]
      exact hrec'
    | succ j =>
      have ho : offs (j + 1) < b.length := by rcases h2 with h2 | h2 <;> omega
      rw [if_neg (by simp [badJ, padR, spP])]
      rw [show spP ch cmd b (j + 1) = ⟨ch, 0, 0, j, false, (b.drop (offs (j + 1))).take 59⟩ from rfl]
      simp only [padR, sizeJ, List.length_append, List.length_replicate, List.length_take, List.length_drop]
      have hm : min (offs (j + 1)) b.length = offs (j + 1) := by omega
      rw [hm, show (if j + 1 = 0 then (57 : Int) else 59) = 59 from if_neg (by omega)]
      have hl : (b.length : Int) - (offs (j + 1) : Nat) = ((b.drop (offs (j + 1))).length : Nat) := by simp; omega
      rw [hl]
      have hq := imin_le (b.drop (offs (j + 1))).length 59 (by omega)
      simp only [List.length_drop] at hq
      rw [if_neg (by simp only [List.length_drop]; omega)]
      rw [List.take_append_of_le_length (by simp only [List.length_take, List.length_drop]; unfold imin; split <;> omega), List.take_take]
      rw [show (b.drop (offs (j + 1))).take (min (imin ((b.drop (offs (j + 1))).length : Nat) 59).toNat 59) = (b.drop (offs (j + 1))).take 59 by
        unfold imin
        split
        · rfl
        · rw [List.take_of_length_le (by omega), List.take_of_length_le (by omega)]]
      rw [← List.take_add]
      have : offs (j + 1) + 59 = offs (j + 1 + 1) := by simp only [offs]; omega
      rw [this]
      exact hrec
/-- The packets of a message, filled up, with others behind them. -/
theorem join_split (ch cmd : Int) (b : List Int) (h : splitE cmd b.length = 0) (tail : List Rec) :
    joinR ((splitL ch cmd b).map padR ++ tail) = (b, 0) ∧ joinC ((splitL ch cmd b).map padR ++ tail) = cmd ∧ joinU ((splitL ch cmd b).map padR ++ tail) = ((splitL ch cmd b).length : Int) := by
  have hb : 1 ≤ cmd ∧ cmd ≤ 127 ∧ b.length ≤ 4096 := by
    unfold splitE at h
    (repeat' split at h) <;> omega
  have hn := split_len ch cmd b h
  have hc := count_div (c := b.length) (by omega) (by omega)
  have hh : hdR ((splitL ch cmd b).map padR ++ tail) = padR ⟨ch, cmd, b.length, 0, true, b.take 57⟩ := by
    rw [split_cons ch cmd b h]
    rfl
  have hl : ((splitL ch cmd b).map padR ++ tail).length ≠ 0 := by rw [List.length_append, List.length_map]; omega
  have hj : joinR ((splitL ch cmd b).map padR ++ tail) = (b, 0) := by
    unfold joinR
    rw [if_neg hl, hh]
    rw [if_neg (show ¬ (padR ⟨ch, cmd, b.length, 0, true, b.take 57⟩).f = false by simp [padR])]
    rw [if_neg (show ¬ ((padR ⟨ch, cmd, b.length, 0, true, b.take 57⟩).c < 0 ∨ 4096 < (padR ⟨ch, cmd, b.length, 0, true, b.take 57⟩).c) by simp only [padR]; omega)]
    exact join_on ch cmd b h tail (countI b.length).toNat 0 (by omega)
  refine ⟨hj, ?_, ?_⟩
  · rw [joinC, if_pos (by rw [hj]), hh]; rfl
  · rw [joinU, if_pos (by rw [hj]), hh, hn]; rfl
/-- What lies on the wire: bytes that can be decoded; those of the channel are the packets, filled up. -/
structure Wire (ch : Int) (ps : List Rec) (L : List Rec) : Prop where
  ok : ∀ x ∈ L, RngL .u8 x.s ∧ decE x.s = 0
  got : (L.map fun x => decR x.s).filter (fun r => r.a == ch) = ps.map padR
theorem Wire.nil (ch : Int) : Wire ch [] [] := ⟨by simp, rfl⟩
theorem Wire.mine {ch : Int} {ps L : List Rec} (h : Wire ch ps L) {r : Rec} (hr : RngR 0 r) (ho : okR r) (ha : r.a = ch) : Wire ch (ps ++ [r]) (L ++ [⟨0, 0, 0, 0, false, encB r.a r.f r.b r.c r.d r.s⟩]) := by
  obtain ⟨d1, d2⟩ := dec_enc r hr ho
  refine ⟨fun x hx => ?_, ?_⟩
  · rcases List.mem_append.1 hx with hx | hx
    · exact h.ok x hx
    · simp at hx
      subst hx
      exact ⟨encB_rng r hr, d1⟩
  · rw [List.map_append, List.filter_append, h.got, List.map_append]
    simp only [List.map_cons, List.map_nil, d2]
    rw [List.filter_cons_of_pos (by simp [padR, ha])]
    rfl
theorem Wire.other {ch : Int} {ps L : List Rec} (h : Wire ch ps L) {r : Rec} (hr : RngR 0 r) (ho : okR r) (ha : r.a ≠ ch) : Wire ch ps (L ++ [⟨0, 0, 0, 0, false, encB r.a r.f r.b r.c r.d r.s⟩]) := by
  obtain ⟨d1, d2⟩ := dec_enc r hr ho
  refine ⟨fun x hx => ?_, ?_⟩
  · rcases List.mem_append.1 hx with hx | hx
    · exact h.ok x hx
    · simp at hx
      subst hx
      exact ⟨encB_rng r hr, d1⟩
  · rw [List.map_append, List.filter_append, h.got]
    simp only [List.map_cons, List.map_nil, d2]
    rw [List.filter_cons_of_neg (by simpa [padR] using ha)]
    simp
end Go.Proofs.Ytokeanadhihlfaa.V
