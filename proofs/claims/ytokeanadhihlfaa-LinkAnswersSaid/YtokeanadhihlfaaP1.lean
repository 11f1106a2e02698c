/-
  Packets, plainly: the error of a packet, its bytes, the packet of bytes. No program in sight.
-/
import Derived.Test.YtokeanadhihlfaaMB
set_option linter.all false
namespace Go.Proofs.Ytokeanadhihlfaa.V
open Go

/-- The error of a packet. -/
def chkE (f : Bool) (b c d : Int) (n : Nat) : Int :=
  match f with
  | true => if b < 1 ∨ 127 < b ∨ c < 0 ∨ 65535 < c then 9 else if d ≠ 0 then 4 else if 57 < n then 8 else 0
  | false => if d < 0 ∨ 127 < d then 9 else if b ≠ 0 ∨ c ≠ 0 then 4 else if 59 < n then 8 else 0
def b4 (a : Int) : List Int := [IntKind.u8.wrap (shr .u32 a 24), IntKind.u8.wrap (shr .u32 a 16), IntKind.u8.wrap (shr .u32 a 8), IntKind.u8.wrap a]
/-- The bytes of a packet that can be encoded. -/
def encB (a : Int) (f : Bool) (b c d : Int) (s : List Int) : List Int :=
  match f with
  | true => b4 a ++ [IntKind.u8.wrap (128 + b), IntKind.u8.wrap (shr .i64 c 8), IntKind.u8.wrap c] ++ s ++ List.replicate (57 - s.length) 0
  | false => b4 a ++ [IntKind.u8.wrap d] ++ s ++ List.replicate (59 - s.length) 0
def encL (a : Int) (f : Bool) (b c d : Int) (s : List Int) : List Int := if chkE f b c d s.length = 0 then encB a f b c d s else []
/-- The bytes s put into L from the place p on; i of them are there already. -/
def putAt (L : List Int) (p : Nat) (s : List Int) (i : Nat) : List Int := L.take (p + i) ++ s.drop i ++ L.drop (p + s.length)
theorem putAt_end (L s : List Int) (p : Nat) : putAt L p s s.length = L.take (p + s.length) ++ L.drop (p + s.length) := by simp [putAt]
theorem putAt_step (L s : List Int) (p i : Nat) (hi : i < s.length) (hL : p + s.length ≤ L.length) : putAt (L.set (p + i) (s.getD i 0)) p s (i + 1) = putAt L p s i := by
  unfold putAt
  rw [List.drop_set_of_lt (by omega), ← Nat.add_assoc, List.take_succ_eq_append_getElem (by simp; omega), List.take_set_of_le (by omega)]
  rw [List.drop_eq_getElem_cons (i := i) hi]
  simp [List.getD, hi]

/-- The error of bytes that are to be a packet, and the packet. -/
def decE (l : List Int) : Int := if l.length < 64 then 1 else if 64 < l.length then 8 else if l.getD 4 0 = 128 then 9 else 0
def ch4 (l : List Int) : Int := ior .u32 (ior .u32 (ior .u32 (shl .u32 (IntKind.u32.wrap (l.getD 0 0)) 24) (shl .u32 (IntKind.u32.wrap (l.getD 1 0)) 16)) (shl .u32 (IntKind.u32.wrap (l.getD 2 0)) 8)) (IntKind.u32.wrap (l.getD 3 0))
def len2 (l : List Int) : Int := ior .i64 (shl .i64 (IntKind.i64.wrap (l.getD 5 0)) 8) (IntKind.i64.wrap (l.getD 6 0))
def decR (l : List Int) : Rec :=
  if decE l ≠ 0 then ⟨0, 0, 0, 0, false, []⟩
  else if l.getD 4 0 < 128 then ⟨ch4 l, 0, 0, l.getD 4 0, false, l.drop 5⟩
  else ⟨ch4 l, l.getD 4 0 - 128, len2 l, 0, true, l.drop 7⟩
/-- A packet as a value. -/
def pkV (r : Rec) : AV := .agg [.int .u32 r.a, .bool r.f, .int .i64 r.b, .int .i64 r.c, .int .i64 r.d, .ints false .u8 r.s]
theorem rng_at {l : List Int} (h : RngL .u8 l) (i : Nat) : 0 ≤ l.getD i 0 ∧ l.getD i 0 ≤ 255 := by
  by_cases hi : i < l.length
  · have := in_u8.1 (h l[i] (List.getElem_mem hi))
    simpa [List.getD, hi] using this
  · simp [List.getD, hi]
/-! ### a deck of numbers -/
def nextR (l : List Int) (n m : Int) : Int := if n < l.length then (IntKind.u64.wrap (l.getD n.toNat 0)) % m else 0
def nextN (l : List Int) (n : Int) : Int := if n < l.length then n + 1 else n
theorem nextR_rng (l : List Int) (n m : Int) (h : 0 < m) : 0 ≤ nextR l n m ∧ nextR l n m < m := by
  unfold nextR
  split
  · exact ⟨Int.emod_nonneg _ (by omega), Int.emod_lt_of_pos _ h⟩
  · omega
theorem nextN_rng {l : List Int} {n : Int} (h : 0 ≤ n ∧ n ≤ l.length) : 0 ≤ nextN l n ∧ nextN l n ≤ l.length := by unfold nextN; split <;> omega
theorem nextR_in (l : List Int) (n m : Int) (k : Nat) (h : 0 < m) (hk : m = k) : inB (nextR l n m) k = true ∧ decide ((nextR l n m).toNat < k) = true := by
  have := nextR_rng l n m h
  simp only [inB, Bool.and_eq_true, decide_eq_true_eq]
  omega
theorem chk_true {x : Prop} : chk true x = x := rfl
theorem br_true {x y : Prop} : br true x y = x := rfl
theorem br_false {x y : Prop} : br false x y = y := rfl

/-! ### parts of lists -/
theorem imin_le (n : Nat) (k : Int) (hk : 0 ≤ k) : 0 ≤ imin n k ∧ imin n k ≤ n ∧ imin n k ≤ k := by unfold imin; split <;> omega
theorem take_imin {α : Type} (r : List α) (k : Int) : r.take (imin r.length k).toNat = r.take k.toNat := by
  unfold imin
  split
  · rfl
  · rw [Int.toNat_natCast, List.take_length, List.take_of_length_le (by omega)]
theorem drop_imin {α : Type} (r : List α) (k : Int) : r.drop (imin r.length k).toNat = r.drop k.toNat := by
  unfold imin
  split
  · rfl
  · rw [Int.toNat_natCast, List.drop_length, List.drop_of_length_le (by omega)]
theorem cut_hi {n : Nat} {h : Int} (h1 : 0 ≤ h) (h2 : h ≤ n) : cutB n none (some h) = true := by simp [cutB]; omega
theorem cut_lo {n : Nat} {l : Int} (h1 : 0 ≤ l) (h2 : l ≤ n) : cutB n (some l) none = true := by simp [cutB]; omega
theorem cut_both {n : Nat} {l h : Int} (h1 : 0 ≤ l) (h2 : l ≤ h) (h3 : h ≤ n) : cutB n (some l) (some h) = true := by simp [cutB]; omega

/-! ### the packets of a message -/
def contF (ch : Int) : Nat → Int → List Int → List Rec
  | 0, _, _ => []
  | f + 1, q, r => if r.length = 0 then [] else ⟨ch, 0, 0, q, false, r.take 59⟩ :: contF ch f (q + 1) (r.drop 59)
theorem contF_fuel (ch : Int) : ∀ (f g : Nat) (q : Int) (r : List Int), r.length ≤ f → r.length ≤ g → contF ch f q r = contF ch g q r
  | 0, 0, q, r, _, _ => rfl
  | 0, g + 1, q, r, h, _ => by simp only [contF]; rw [if_pos (by omega)]
  | f + 1, 0, q, r, _, h => by simp only [contF]; rw [if_pos (by omega)]
  | f + 1, g + 1, q, r, h1, h2 => by
    simp only [contF]
    split
    · rfl
    · rw [contF_fuel ch f g (q + 1) (r.drop 59) (by simp; omega) (by simp; omega)]
/-- The packets after the first one. -/
def conts (ch q : Int) (r : List Int) : List Rec := contF ch r.length q r
theorem conts_nil (ch q : Int) : conts ch q [] = [] := rfl
theorem conts_step (ch q : Int) (r : List Int) (h : 0 < r.length) : conts ch q r = ⟨ch, 0, 0, q, false, r.take 59⟩ :: conts ch (q + 1) (r.drop 59) := by
  unfold conts
  obtain ⟨m, hm⟩ : ∃ m, r.length = m + 1 := ⟨r.length - 1, by omega⟩
  rw [hm]
  simp only [contF]
  rw [if_neg (by omega), contF_fuel ch m (r.drop 59).length (q + 1) _ (by simp; omega) (Nat.le_refl _)]
def splitE (cmd : Int) (n : Nat) : Int := if cmd < 1 ∨ 127 < cmd then 9 else if 4096 < n then 8 else 0
def splitL (ch cmd : Int) (b : List Int) : List Rec := if splitE cmd b.length ≠ 0 then [] else ⟨ch, cmd, b.length, 0, true, b.take 57⟩ :: conts ch 0 (b.drop 57)

/-! ### a message of packets -/
def capI : Bool → Int
  | true => 57
  | false => 59
theorem capI_at (i : Int) (h : 0 ≤ i) : capI (i == 0) = if i.toNat = 0 then 57 else 59 := by
  by_cases hi : i = 0
  · subst hi; rfl
  · rw [show (i == 0) = false by simpa using hi, if_neg (by omega)]; rfl
theorem br_neg {e : Int} {x y : Prop} (h : br (e == 0) x y) (he : e ≠ 0) : y := by rw [show (e == 0) = false by simpa using he] at h; exact h
theorem br_pos {e : Int} {x y : Prop} (h : br (e == 0) x y) (he : e = 0) : x := by rw [show (e == 0) = true by simpa using he] at h; exact h
theorem imin_rng (x y : Int) (hx : 0 ≤ x) (hy : 0 ≤ y) : 0 ≤ imin x y ∧ imin x y ≤ x ∧ imin x y ≤ y := by unfold imin; split <;> omega
/-- How much the packet at place i has to carry. -/
def sizeJ (n : Int) (i : Nat) (b : List Int) : Int := imin (n - b.length) (if i = 0 then 57 else 59)
def badJ (ch : Int) (p : Rec) (i : Nat) : Bool := decide (0 < i) && (p.f || (decide (p.a ≠ ch) || decide (p.d ≠ (i : Int) - 1)))
/-- The bytes and the error of the packets from place i on; k of them are needed. -/
def joinF (ch n : Int) (ps : List Rec) : Nat → Nat → List Int → List Int × Int
  | 0, _, b => (b, 0)
  | k + 1, i, b =>
    if ps.length ≤ i then ([], 1)
    else if badJ ch (ps.getD i default) i = true then ([], 33)
    else if ((ps.getD i default).s.length : Int) < sizeJ n i b then ([], 2)
    else joinF ch n ps k (i + 1) (b ++ (ps.getD i default).s.take (sizeJ n i b).toNat)
def countI (n : Int) : Int := if n < 0 ∨ 4096 < n then -1 else if n ≤ 57 then 1 else 1 + (n - 57 + 59 - 1) / 59
def hdR (ps : List Rec) : Rec := ps.getD 0 default
def joinR (ps : List Rec) : List Int × Int :=
  if ps.length = 0 then ([], 1) else if (hdR ps).f = false then ([], 3) else if (hdR ps).c < 0 ∨ 4096 < (hdR ps).c then ([], 8)
  else joinF (hdR ps).a (hdR ps).c ps (countI (hdR ps).c).toNat 0 []
/-- What is still to come at place i, with the bytes L. -/
def joinG (ps : List Rec) (i : Nat) (L : List Int) : List Int × Int := if i = 0 then joinR ps else joinF (hdR ps).a (hdR ps).c ps ((countI (hdR ps).c).toNat - i) i L
theorem joinF_err (ch n : Int) (ps : List Rec) : ∀ (k i : Nat) (b : List Int), (joinF ch n ps k i b).2 ≠ 0 → (joinF ch n ps k i b).1 = []
  | 0, i, b, h => absurd rfl h
  | k + 1, i, b, h => by
    simp only [joinF] at h ⊢
    split
    · rfl
    · rename_i h1
      rw [if_neg h1] at h
      split
      · rfl
      · rename_i h2
        rw [if_neg h2] at h
        split
        · rfl
        · rename_i h3
          rw [if_neg h3] at h
          exact joinF_err ch n ps k (i + 1) _ h
theorem joinR_err (ps : List Rec) (h : (joinR ps).2 ≠ 0) : (joinR ps).1 = [] := by
  unfold joinR at h ⊢
  split
  · rfl
  · rename_i h1
    rw [if_neg h1] at h
    split
    · rfl
    · rename_i h2
      rw [if_neg h2] at h
      split
      · rfl
      · rename_i h3
        rw [if_neg h3] at h
        exact joinF_err _ _ _ _ _ _ h
def joinC (ps : List Rec) : Int := if (joinR ps).2 = 0 then (hdR ps).b else 0
def joinU (ps : List Rec) : Int := if (joinR ps).2 = 0 then countI (hdR ps).c else 0
theorem count_div {c : Int} (h0 : 0 ≤ c) (h1 : c ≤ 4096) : 1 ≤ countI c ∧ countI c ≤ 70 ∧ (c ≤ 57 → countI c = 1) ∧ (57 < c → 57 + 59 * (countI c - 2) < c ∧ c ≤ 57 + 59 * (countI c - 1)) := by
  unfold countI
  rw [if_neg (by omega)]
  split <;> omega
end Go.Proofs.Ytokeanadhihlfaa.V
