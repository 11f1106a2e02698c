/-
  A flash memory, plainly: what is valid, what a range of a page is, bytes that are changed one after another. No program in sight.
-/
import Derived.Test.YtnioiijcmdnhaaaVNum
set_option linter.all false
namespace Go.Proofs.Ytnioiijcmdnhaaa.V
open Go

theorem chk_true {x : Prop} : chk true x = x := rfl
theorem br_true {x y : Prop} : br true x y = x := rfl
theorem br_false {x y : Prop} : br false x y = y := rfl
theorem cut_hi {n : Nat} {h : Int} (h1 : 0 ≤ h) (h2 : h ≤ n) : cutB n none (some h) = true := by simp [cutB]; omega
theorem cut_lo {n : Nat} {l : Int} (h1 : 0 ≤ l) (h2 : l ≤ n) : cutB n (some l) none = true := by simp [cutB]; omega
theorem cut_both {n : Nat} {l h : Int} (h1 : 0 ≤ l) (h2 : l ≤ h) (h3 : h ≤ n) : cutB n (some l) (some h) = true := by simp [cutB]; omega
/-- The error of a flash of pages of z bytes and n bytes in all. -/
def valE (z : Int) (n : Nat) : Int := if z < 512 ∨ 8192 < z then 9 else if n = 0 ∨ (n : Int) % z ≠ 0 ∨ 8 < (n : Int) / z then 4 else 0
/-- The error of a range of a page. -/
def areaE (z : Int) (L : Nat) (page at' n : Int) : Int :=
  if valE z L ≠ 0 then valE z L else if page < 0 ∨ (L : Int) / z ≤ page ∨ at' < 0 ∨ n < 0 ∨ z < at' ∨ z - at' < n then 9 else 0
theorem val_ok {z : Int} {n : Nat} (h : valE z n = 0) : 512 ≤ z ∧ z ≤ 8192 ∧ 0 < n ∧ (n : Int) % z = 0 ∧ (n : Int) / z ≤ 8 := by
  unfold valE at h
  split at h
  · cases h
  · split at h
    · cases h
    · omega
theorem val_len {z : Int} {n : Nat} (h : valE z n = 0) : (n : Int) = z * ((n : Int) / z) ∧ 1 ≤ (n : Int) / z ∧ (n : Int) ≤ 65536 := by
  obtain ⟨h1, h2, h3, h4, h5⟩ := val_ok h
  have e := Int.mul_ediv_add_emod (n : Int) z
  rw [h4, Int.add_zero] at e
  have hp : 1 ≤ (n : Int) / z := by
    by_cases hh : 0 < (n : Int) / z
    · omega
    · exfalso
      have : z * ((n : Int) / z) ≤ 0 := Int.mul_nonpos_of_nonneg_of_nonpos (by omega) (by omega)
      omega
  refine ⟨e.symm, hp, ?_⟩
  have : z * ((n : Int) / z) ≤ 8192 * 8 := Int.mul_le_mul h2 h5 (by omega) (by omega)
  omega
/-- Where a page ends. -/
theorem page_end {z page : Int} {n : Nat} (h : valE z n = 0) (h0 : 0 ≤ page) (h1 : page < (n : Int) / z) : 0 ≤ page * z ∧ page * z + z ≤ n := by
  obtain ⟨g1, g2, g3⟩ := val_len h
  obtain ⟨k1, k2, _⟩ := val_ok h
  refine ⟨Int.mul_nonneg h0 (by omega), ?_⟩
  have : (page + 1) * z ≤ ((n : Int) / z) * z := Int.mul_le_mul_of_nonneg_right (by omega) (by omega)
  rw [Int.add_mul, Int.one_mul, Int.mul_comm ((n : Int) / z) z, ← g1] at this
  exact this
theorem area_ok {z page at' n : Int} {L : Nat} (h : areaE z L page at' n = 0) : valE z L = 0 ∧ 0 ≤ page ∧ page < (L : Int) / z ∧ 0 ≤ at' ∧ 0 ≤ n ∧ at' + n ≤ z ∧ 0 ≤ page * z ∧ page * z + at' + n ≤ L := by
  unfold areaE at h
  split at h
  · contradiction
  · rename_i hv
    have hv' : valE z L = 0 := by omega
    split at h
    · cases h
    · have := page_end (page := page) hv' (by omega) (by omega)
      omega
/-- Bytes from the place o + i on, changed one after another. -/
def updF (g : Nat → Int → Int) (M : List Int) (o i : Nat) : Nat → List Int
  | 0 => M
  | j + 1 => updF g (M.set (o + i) (g i (M.getD (o + i) 0))) o (i + 1) j
theorem updF_len (g : Nat → Int → Int) (o : Nat) : ∀ (j i : Nat) (M : List Int), (updF g M o i j).length = M.length
  | 0, _, _ => rfl
  | j + 1, i, M => by rw [updF, updF_len g o j (i + 1), List.length_set]
def andG (b : List Int) (i : Nat) (x : Int) : Int := iand .u8 x (b.getD i 0)
def eraG (_ : Nat) (_ : Int) : Int := 255
/-- The bytes, the budget and the error behind a change of n bytes from o on. -/
structure Chg where
  l : List Int
  bud : Int
  e : Int
def chgR (g : Nat → Int → Int) (M : List Int) (o i n : Nat) (bud : Int) : Chg :=
  if 0 ≤ bud ∧ bud < (n : Int) - i then ⟨updF g M o i bud.toNat, 0, 16⟩ else if 0 ≤ bud then ⟨updF g M o i (n - i), bud - ((n : Int) - i), 0⟩ else ⟨updF g M o i (n - i), bud, 0⟩
def chg (g : Nat → Int → Int) (L : List Int) (o n : Nat) (bud : Int) : Chg := chgR g L o 0 n bud
theorem chg_out {g : Nat → Int → Int} {M : List Int} {o n i : Nat} {bud : Int} (hi : i < n) (hb : bud = 0) : chgR g M o i n bud = ⟨M, 0, 16⟩ := by
  rw [chgR, if_pos (by omega), hb]
  rfl
theorem chg_done {g : Nat → Int → Int} {M : List Int} {o n : Nat} {bud : Int} : chgR g M o n n bud = ⟨M, bud, 0⟩ := by
  rw [chgR, if_neg (by omega), Nat.sub_self]
  split
  · rw [show bud - ((n : Int) - n) = bud by omega]
    rfl
  · rfl
theorem chg_step {g : Nat → Int → Int} {M : List Int} {o n i : Nat} {bud bud' : Int} (hi : i < n) (hb : bud ≠ 0) (hb' : bud' = if 0 < bud then bud - 1 else bud) :
    chgR g M o i n bud = chgR g (M.set (o + i) (g i (M.getD (o + i) 0))) o (i + 1) n bud' := by
  unfold chgR
  by_cases h0 : 0 ≤ bud
  · rw [if_pos (by omega)] at hb'
    obtain ⟨m, hm⟩ : ∃ m : Nat, bud = m + 1 := ⟨(bud - 1).toNat, by omega⟩
    by_cases h1 : bud < (n : Int) - i
    · rw [if_pos ⟨h0, h1⟩, if_pos (by omega), hb', show bud.toNat = m + 1 by omega, show (bud - 1).toNat = m by omega]
      rfl
    · rw [if_neg (by omega), if_pos h0, if_neg (by omega), if_pos (by omega), show n - i = (n - (i + 1)) + 1 by omega, hb', show bud - ((n : Int) - i) = bud - 1 - ((n : Int) - ((i + 1 : Nat) : Int)) by omega]
      rfl
  · rw [if_neg (by omega)] at hb'
    rw [if_neg (by omega), if_neg h0, if_neg (by omega), if_neg (by omega), show n - i = (n - (i + 1)) + 1 by omega, hb']
    rfl
theorem iand_rng (x : Int) (m : Nat) (hm : m < 9223372036854775808) : 0 ≤ iand .i64 x m ∧ iand .i64 x m ≤ m := by
  have h1 : (BitVec.ofInt 64 x &&& BitVec.ofInt 64 (m : Int)).toNat ≤ m := by
    rw [BitVec.toNat_and]
    refine Nat.le_trans Nat.and_le_right ?_
    simp [BitVec.toNat_ofInt]
    omega
  show 0 ≤ IntKind.i64.wrap (BitVec.ofInt 64 x &&& BitVec.ofInt 64 (m : Int)).toNat ∧ IntKind.i64.wrap (BitVec.ofInt 64 x &&& BitVec.ofInt 64 (m : Int)).toNat ≤ (m : Int)
  generalize (BitVec.ofInt 64 x &&& BitVec.ofInt 64 (m : Int)).toNat = k at *
  rw [wrap_i64 (by omega) (by omega)]
  omega
theorem tmod_rng {a : Int} {m : Int} (h0 : 0 ≤ a) (hm : 0 < m) : 0 ≤ a.tmod m ∧ a.tmod m < m := by
  rw [Int.tmod_eq_emod_of_nonneg h0]
  exact ⟨Int.emod_nonneg _ (by omega), Int.emod_lt_of_pos _ hm⟩
theorem getD_all {P : Int → Prop} {L : List Int} (h : ∀ x ∈ L, P x) (h0 : P 0) (k : Nat) : P (L.getD k 0) := by
  by_cases hk : k < L.length
  · simp only [List.getD, List.getElem?_eq_getElem hk, Option.getD_some]
    exact h _ (List.getElem_mem hk)
  · have : L[k]? = none := List.getElem?_eq_none (by omega)
    rw [List.getD, this]
    exact h0
/-- What is read. -/
def rdL (z : Int) (L : List Int) (page at' n : Int) : List Int := if areaE z L.length page at' n ≠ 0 then [] else (L.drop (page * z + at').toNat).take n.toNat
/-- A new flash. -/
def newE (z n : Int) : Int := if z < 512 ∨ 8192 < z ∨ n < 1 ∨ 8 < n then 9 else 0
def newZ (z n : Int) : Int := if newE z n ≠ 0 then 0 else z
def newN (z n : Int) : Nat := if newE z n ≠ 0 then 0 else (z * n).toNat
/-- What a list of bytes does to bytes: they are programmed, or erased if there are none. -/
def refG (b : List Int) : Nat → Int → Int := if b.length = 0 then eraG else andG b
theorem val_new {z n : Int} (h : newE z n = 0) : 512 ≤ z ∧ z ≤ 8192 ∧ newZ z n = z ∧ newN z n = (z * n).toNat ∧ ((newN z n : Nat) : Int) = z * n ∧ 512 ≤ z * n ∧ z * n ≤ 65536 ∧ valE z (newN z n) = 0 := by
  have hc : ¬ (z < 512 ∨ 8192 < z ∨ n < 1 ∨ 8 < n) := by
    intro hc
    rw [newE, if_pos hc] at h
    cases h
  have h1 : 512 * 1 ≤ z * n := Int.mul_le_mul (by omega) (by omega) (by omega) (by omega)
  have h2 : z * n ≤ 8192 * 8 := Int.mul_le_mul (by omega) (by omega) (by omega) (by omega)
  have hZ : newZ z n = z := by rw [newZ, if_neg (by rw [h]; decide)]
  have hN : newN z n = (z * n).toNat := by rw [newN, if_neg (by rw [h]; decide)]
  have hI : ((newN z n : Nat) : Int) = z * n := by rw [hN]; omega
  refine ⟨by omega, by omega, hZ, hN, hI, by omega, by omega, ?_⟩
  rw [valE, if_neg (by omega), if_neg]
  rw [hI, Int.mul_emod_right, Int.mul_ediv_cancel_left _ (by omega)]
  omega
/-- What programming and erasing give. -/
structure FRes where
  z : Int
  l : List Int
  bud : Int
  e : Int
def FRes.V (x : FRes) : AV := .tup [.agg [.int .i64 x.z, .ints false .u8 x.l], .int .i64 x.bud, .int .i64 x.e]
def resF (z : Int) (c : Chg) : FRes := ⟨z, c.l, c.bud, c.e⟩
def progF (z : Int) (L : List Int) (page at' : Int) (b : List Int) (bud : Int) : FRes :=
  if areaE z L.length page at' b.length ≠ 0 then ⟨0, [], 0, areaE z L.length page at' b.length⟩ else resF z (chg (andG b) L (page * z + at').toNat b.length bud)
def eraF (z : Int) (L : List Int) (page bud : Int) : FRes :=
  if areaE z L.length page 0 0 ≠ 0 then ⟨0, [], 0, areaE z L.length page 0 0⟩ else resF z (chg eraG L (page * z).toNat z.toNat bud)
theorem chg_ref (L : List Int) (o : Nat) (b : List Int) (bud : Int) : chg (refG b) L o b.length bud = chg (andG b) L o b.length bud := by
  by_cases hb : b.length = 0
  · rw [hb]
    unfold chg
    rw [chg_done, chg_done]
  · rw [refG, if_neg hb]
end Go.Proofs.Ytnioiijcmdnhaaa.V
