/-
  Bytes that are changed one after another: in two parts; what each of them is afterwards. No program in sight.
-/
import Derived.Test.YtnioiijcmdnhaaaPQ1
set_option linter.all false
namespace Go.Proofs.Ytnioiijcmdnhaaa.V
open Go

theorem updF_add (g : Nat → Int → Int) (o : Nat) : ∀ (j k i : Nat) (M : List Int), updF g M o i (j + k) = updF g (updF g M o i j) o (i + j) k
  | 0, k, i, M => by rw [Nat.zero_add]; rfl
  | j + 1, k, i, M => by
    rw [show j + 1 + k = (j + k) + 1 by omega, updF, updF, updF_add g o j k (i + 1), show i + 1 + j = i + (j + 1) by omega]
theorem updF_shift (g g' : Nat → Int → Int) (c : Nat) (h : ∀ i x, g (c + i) x = g' i x) (o : Nat) : ∀ (j i : Nat) (M : List Int), updF g M o (c + i) j = updF g' M (o + c) i j
  | 0, _, _ => rfl
  | j + 1, i, M => by
    rw [updF, updF, h, show o + (c + i) = o + c + i by omega, show c + i + 1 = c + (i + 1) by omega, updF_shift g g' c h o j (i + 1)]
theorem andG_drop (q : List Int) (c i : Nat) (x : Int) : andG q (c + i) x = andG (q.drop c) i x := by
  unfold andG
  rw [show (q.drop c).getD i 0 = q.getD (c + i) 0 by simp [List.getD, List.getElem?_drop]]
/-- In two parts. -/
theorem upd_parts (q L : List Int) (o c n : Nat) (hc : c ≤ n) : updF (andG (q.drop c)) (updF (andG q) L o 0 c) (o + c) 0 (n - c) = updF (andG q) L o 0 n := by
  rw [← updF_shift (andG q) (andG (q.drop c)) c (andG_drop q c) o, Nat.add_zero]
  have := updF_add (andG q) o c (n - c) 0 L
  rw [Nat.zero_add] at this
  rw [← this, show c + (n - c) = n by omega]
/-- Outside nothing changes. -/
theorem updF_out (g : Nat → Int → Int) (o p : Nat) : ∀ (j i : Nat) (M : List Int), (p < o + i ∨ o + i + j ≤ p) → (updF g M o i j).getD p 0 = M.getD p 0
  | 0, _, _, _ => rfl
  | j + 1, i, M, h => by
    rw [updF, updF_out g o p j (i + 1) _ (by omega)]
    simp only [List.getD]
    rw [List.getElem?_set_ne (by omega)]
theorem updF_in (g : Nat → Int → Int) (o p : Nat) : ∀ (j i : Nat) (M : List Int), o + i ≤ p → p < o + i + j → p < M.length → (updF g M o i j).getD p 0 = g (p - o) (M.getD p 0)
  | 0, _, _, h, h2, _ => by omega
  | j + 1, i, M, h, h2, h3 => by
    rw [updF]
    by_cases he : p = o + i
    · rw [updF_out g o p j (i + 1) _ (by omega), he, show o + i - o = i by omega]
      simp only [List.getD]
      rw [List.getElem?_set_self (by omega)]
      rfl
    · rw [updF_in g o p j (i + 1) _ (by omega) (by omega) (by rw [List.length_set]; omega)]
      simp only [List.getD]
      rw [List.getElem?_set_ne (by omega)]
theorem area0 {z a n : Int} {L : Nat} (h : valE z L = 0) (h0 : 0 ≤ a) (h1 : 0 ≤ n) (h2 : a + n ≤ 512) : areaE z L 0 a n = 0 := by
  obtain ⟨v1, v2, v3, _⟩ := val_ok h
  obtain ⟨w1, w2, w3⟩ := val_len h
  rw [areaE, if_neg (by omega), if_neg (by omega)]
theorem prog0 {z a : Int} {L q : List Int} {bud : Int} (h : valE z L.length = 0) (h0 : 0 ≤ a) (h2 : a + q.length ≤ 512) : progF z L 0 a q bud = resF z (chg (andG q) L a.toNat q.length bud) := by
  rw [progF, if_neg (fun hh => hh (area0 h h0 (by omega) h2)), Int.zero_mul, Int.zero_add]
end Go.Proofs.Ytnioiijcmdnhaaa.V
