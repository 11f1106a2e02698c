/-
  Ports, plainly: a packet arrives at a port. The program's way and the reference's way; they agree. No program in sight.
-/
import Derived.Test.YtokeanadhihlfaaP5
set_option linter.all false
namespace Go.Proofs.Ytokeanadhihlfaa.V
open Go

structure Pt where
  ch : Int
  cmd : Int
  len : Int
  s : List Int
  q : Int
def Pt.V (p : Pt) : AV := .agg [.int .u32 p.ch, .int .i64 p.cmd, .int .i64 p.len, .ints false .u8 p.s, .int .i64 p.q]
def awaitP (ch : Int) : Pt := ⟨ch, 0, -1, [], 0⟩
/-- What a port answers: the port, the command, the bytes, and whether it is done. -/
structure Acc where
  p : Pt
  c : Int
  b : List Int
  ok : Bool
def Acc.V (x : Acc) : AV := .tup [x.p.V, .int .i64 x.c, .ints false .u8 x.b, .bool x.ok]
def accN (p : Pt) : Acc := ⟨p, 0, [], false⟩
def accF (x : Pt) (ch : Int) : Acc := if (x.s.length : Int) < x.len then accN x else ⟨awaitP ch, x.cmd, x.s, true⟩
def acceptL (p : Pt) (r : Rec) : Acc :=
  if chkE r.f r.b r.c r.d r.s.length ≠ 0 then accN p
  else if r.a ≠ p.ch then accN p
  else match r.f with
  | true => if r.c > 4096 then accN p else accF ⟨p.ch, r.b, r.c, extL [] (padR r).s r.c, 0⟩ p.ch
  | false => if p.len < 0 then accN p else if r.d ≠ p.q then accN (awaitP p.ch) else accF ⟨p.ch, p.cmd, p.len, extL p.s (padR r).s p.len, IntKind.i64.wrap (p.q + 1)⟩ p.ch
def acceptR (p : Pt) (r : Rec) : Acc :=
  if chkE r.f r.b r.c r.d r.s.length ≠ 0 then accN p
  else if r.a ≠ p.ch then accN p
  else match r.f with
  | true => if r.c > 4096 then accN p else accF ⟨p.ch, r.b, r.c, (padR r).s.take (imin r.c 57).toNat, 0⟩ p.ch
  | false => if p.len < 0 then accN p else if r.d ≠ p.q then accN (awaitP p.ch) else accF ⟨p.ch, p.cmd, p.len, p.s ++ (padR r).s.take (imin (imax (IntKind.i64.wrap (p.len - p.s.length)) 0) 59).toNat, IntKind.i64.wrap (p.q + 1)⟩ p.ch
structure PInv (p : Pt) : Prop where
  l0 : -1 ≤ p.len
  l1 : p.len ≤ 4096
  ls : (p.s.length : Int) ≤ 4096
theorem acc_eq (p : Pt) (r : Rec) (h : PInv p) : acceptL p r = acceptR p r := by
  obtain ⟨h1, h2, h3⟩ := h
  unfold acceptL acceptR
  by_cases hk : chkE r.f r.b r.c r.d r.s.length ≠ 0
  · rw [if_pos hk, if_pos hk]
  · have ho : okR r := by unfold okR; omega
    have hl := pad_len r ho
    rw [if_neg hk, if_neg hk]
    by_cases ha : r.a ≠ p.ch
    · rw [if_pos ha, if_pos ha]
    · rw [if_neg ha, if_neg ha]
      cases hf : r.f with
      | true =>
        have hg := ok_first ho hf
        rw [hf] at hl
        simp only at hl ⊢
        by_cases hc : r.c > 4096
        · rw [if_pos hc, if_pos hc]
        · rw [if_neg hc, if_neg hc, extL, hl]
          simp only [List.length_nil, List.nil_append]
          congr 3
          unfold imin imax
          repeat' split
          all_goals first | rfl | omega
      | false =>
        rw [hf] at hl
        simp only at hl ⊢
        by_cases hc : p.len < 0
        · rw [if_pos hc, if_pos hc]
        · rw [if_neg hc, if_neg hc]
          by_cases hd : r.d ≠ p.q
          · rw [if_pos hd, if_pos hd]
          · rw [if_neg hd, if_neg hd, wrap_i64 (n := p.len - p.s.length) (by omega) (by omega), extL, hl]
            congr 4
            unfold imin imax
            repeat' split
            all_goals first | rfl | omega
theorem await_inv (ch : Int) : PInv (awaitP ch) := ⟨Int.le_refl _, (show (-1 : Int) ≤ 4096 by decide), (show (0 : Int) ≤ 4096 by decide)⟩
theorem accF_inv {x : Pt} {ch : Int} (h : PInv x) : PInv (accF x ch).p := by
  unfold accF
  split
  · exact h
  · exact await_inv ch
theorem acc_inv (p : Pt) (r : Rec) (h : PInv p) : PInv (acceptL p r).p := by
  obtain ⟨h1, h2, h3⟩ := h
  unfold acceptL
  split
  · exact ⟨h1, h2, h3⟩
  · rename_i hk
    have ho : okR r := by unfold okR; omega
    have hl := pad_len r ho
    split
    · exact ⟨h1, h2, h3⟩
    · cases hf : r.f with
      | true =>
        have hg := ok_first ho hf
        rw [hf] at hl
        simp only at hl ⊢
        split
        · exact ⟨h1, h2, h3⟩
        · refine accF_inv ⟨(show -1 ≤ r.c by omega), (show r.c ≤ 4096 by omega), ?_⟩
          have := ext_len [] (padR r).s r.c (by simp; omega)
          show ((extL [] (padR r).s r.c).length : Int) ≤ 4096
          omega
      | false =>
        rw [hf] at hl
        simp only at hl ⊢
        split
        · exact ⟨h1, h2, h3⟩
        · split
          · exact await_inv _
          · refine accF_inv ⟨h1, h2, ?_⟩
            show ((extL p.s (padR r).s p.len).length : Int) ≤ 4096
            unfold extL
            rw [List.length_append, List.length_take]
            unfold imin imax
            repeat' split
            all_goals omega
theorem acc_ch (p : Pt) (r : Rec) : (acceptL p r).p.ch = p.ch := by
  have hF : ∀ x : Pt, x.ch = p.ch → (accF x p.ch).p.ch = p.ch := by
    intro x hx
    unfold accF
    split
    · exact hx
    · rfl
  unfold acceptL
  split
  · rfl
  · split
    · rfl
    · cases r.f with
      | true =>
        simp only
        split
        · rfl
        · exact hF _ rfl
      | false =>
        simp only
        split
        · rfl
        · split
          · rfl
          · exact hF _ rfl
end Go.Proofs.Ytokeanadhihlfaa.V
