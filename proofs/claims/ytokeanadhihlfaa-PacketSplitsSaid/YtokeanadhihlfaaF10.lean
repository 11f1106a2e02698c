/-
  Contracts: Join in all cases; bytes to string.
-/
import Derived.Test.YtokeanadhihlfaaF9
namespace Go.Proofs.Ytokeanadhihlfaa
open Go.RowKit

theorem join_ok (A : Option Addr) (c : Nat) (ps : List Pk) (w : World) (hs : SP w (Lt w.heap.size) A c ps) (hl : ps.length ≤ 1000000) (hd : ∀ p ∈ ps, p.data.length ≤ 1000000) :
    Calls Try.prog 28 #[.slice A ps.length c] w (JoinPost w (joinL ps)) := by
  cases ps with
  | nil =>
    go_enter Try.func28, Try.ntmps28
    go_wp2
    refine bodyPost_ret (res_tttt rfl) rfl ?_
    exact joinPost_err 1 (Below.refl _ _)
  | cons f ps =>
    by_cases h1 : f.first = true
    · by_cases h2 : 0 ≤ f.len ∧ f.len ≤ 4096
      · exact join_in A c f ps w hs hl hd h1 h2.1 h2.2
      · have HF := Lib.hid (show joinL (f :: ps) = (0, [], 0, 8) by simp only [joinL, h1]; rw [if_neg (by simp), if_pos (by omega)])
        obtain ⟨b, off, A', c', rfl, hb, hf, q0, q1, q2, q3, q4, q5⟩ := hs.cells (i := 0) (p := f) rfl
        simp only [Nat.zero_mul, Nat.add_zero] at q0 q1 q2 q3 q4 q5
        obtain ⟨n, hn⟩ : ∃ n, n = (f :: ps).length := ⟨_, rfl⟩
        have hn0 : ((n : Int) == 0) = false := by rw [hn]; simp <;> omega
        have hn1 : (0 : Int) < (n : Int) := by rw [hn]; simp <;> omega
        rw [← hn]
        clear hn hs hf hd
        rcases (show f.len < 0 ∨ 4096 < f.len by omega) with g | g
        all_goals
          clear h2
          go_enter Try.func28, Try.ntmps28
          go_wp2
          refine bodyPost_ret (res_tttt rfl) rfl ?_
          rw [HF.out]
          exact joinPost_err 8 ((Below.refl _ _).alloc (Nat.le_refl _) _)
    · have h1' : f.first = false := by simpa using h1
      have HF := Lib.hid (show joinL (f :: ps) = (0, [], 0, 3) by simp [joinL, h1'])
      obtain ⟨b, off, A', c', rfl, hb, hf, q0, q1, q2, q3, q4, q5⟩ := hs.cells (i := 0) (p := f) rfl
      simp only [Nat.zero_mul, Nat.add_zero] at q0 q1 q2 q3 q4 q5
      obtain ⟨n, hn⟩ : ∃ n, n = (f :: ps).length := ⟨_, rfl⟩
      have hn0 : ((n : Int) == 0) = false := by rw [hn]; simp <;> omega
      have hn1 : (0 : Int) < (n : Int) := by rw [hn]; simp <;> omega
      rw [← hn]
      clear hn hs hf hd h1
      go_enter Try.func28, Try.ntmps28
      go_wp2
      refine bodyPost_ret (res_tttt rfl) rfl ?_
      rw [HF.out]
      exact joinPost_err 3 ((Below.refl _ _).alloc (Nat.le_refl _) _)

/-- The string of the bytes l. -/
def strB (l : List UInt8) : ByteArray := ⟨l.toArray⟩
theorem conv_str {w : World} {S : Nat → Prop} {A : Option Addr} {c : Nat} {l : List UInt8} (hs : SB w S A c l) : (convert 28 9 (.slice A l.length c)).run Try.prog w = .ok (.string (strB l)) w := by
  by_cases hl : l = []
  · subst hl
    cases A with
    | none => exact run_convert_bytes_nil w 28 5 Try.underlying28 Try.underlying5 _ _ 9 Try.underlying9
    | some a =>
      rw [run_convert_bytes_string w 28 9 5 _ _ _ Try.underlying28 Try.underlying5 Try.underlying9]
      exact run_bytesToString w a 0 c [] rfl
  · obtain ⟨b, off, rfl, _, hc⟩ := hs.row (by simpa using hl)
    have := run_convert_bytes_arg (P := Try.prog) w 28 5 Try.underlying28 Try.underlying5 b off l.length c (l.map fun x => (x.toNat : Int)) (by simp) (fun i hi => by
      rw [hc i (.int .u8 ((l.map fun x => (x.toNat : Int)).getD i 0)) (by simp [BV, hi])]) 9 Try.underlying9
    rw [this]
    have e : strOfNums (l.map fun x => (x.toNat : Int)) = strB l := by
      unfold strOfNums strB
      rw [List.map_map]
      have : (fun n : Int => UInt8.ofNat n.toNat) ∘ (fun x : UInt8 => (x.toNat : Int)) = id := by
        funext x
        simp
      rw [this, List.map_id]
    rw [e]
end Go.Proofs.Ytokeanadhihlfaa
