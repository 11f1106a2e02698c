/-
  Links, plainly: a packet arrives. The program's way and the reference's way; they agree. No program in sight.
-/
import Derived.Test.YtokeanadhihlfaaP4
set_option linter.all false
namespace Go.Proofs.Ytokeanadhihlfaa.V
open Go

def procL (k : Lk) (o : Ou) (now : Int) (r : Rec) : Lk × Ou :=
  if k.st ≠ 1 then (k, o) else if k.a ≠ r.a then (k, o) else if r.d ≠ k.q then (idleL k, refuseO o r.a 33)
  else handleL ⟨k.n, k.st, k.a, k.cmd, k.len, extL k.s r.s k.len, IntKind.i64.wrap (k.q + 1), now⟩ o now
def nextL (k : Lk) (o : Ou) (now : Int) (r : Rec) : Lk × Ou :=
  if k.st ≠ 1 then (k, o) else if k.a ≠ r.a then (k, o) else if r.d ≠ k.q then (idleL k, refuseO o k.a 33)
  else handleR ⟨k.n, k.st, k.a, k.cmd, k.len, k.s ++ (padR r).s.take (imin (imax (IntKind.i64.wrap (k.len - k.s.length)) 0) 59).toNat, IntKind.i64.wrap (r.d + 1), now⟩ o now
def allocL (k : Lk) (o : Ou) (r : Rec) : Lk × Ou :=
  if r.b ≠ 6 then (k, refuseO o 4294967295 3) else if r.c ≠ 8 then (k, refuseO o 4294967295 2) else if k.n ≥ 32 then (k, refuseO o 4294967295 12)
  else (⟨IntKind.i64.wrap (k.n + 1), k.st, k.a, k.cmd, k.len, k.s, k.q, k.t⟩, replyO o 4294967295 6 (r.s.take 8 ++ b4 (IntKind.u32.wrap (IntKind.i64.wrap (k.n + 1)))))
def renewL (k : Lk) (o : Ou) (r : Rec) : Lk × Ou :=
  if r.c ≠ 8 then (k, refuseO o r.a 2)
  else if k.st ≠ 0 ∧ k.a = r.a then (idleL k, replyO ⟨o.ps, o.dl, o.ms, k.st == 2⟩ r.a 6 (r.s.take 8 ++ b4 r.a))
  else (k, replyO o r.a 6 (r.s.take 8 ++ b4 r.a))
def beginH (k : Lk) (o : Ou) (now : Int) (r : Rec) : Lk × Ou := handleL ⟨k.n, 1, r.a, r.b, r.c, extL [] r.s r.c, 0, now⟩ o now
def beginL (k : Lk) (o : Ou) (now : Int) (r : Rec) : Lk × Ou :=
  if k.st = 1 ∧ k.a = r.a then (idleL k, refuseO o r.a 33)
  else if k.st ≠ 0 then (k, refuseO o r.a 32)
  else if r.b ≠ 1 ∧ r.b ≠ 3 then (k, refuseO o r.a 3)
  else if r.c > 4096 then (k, refuseO o r.a 8)
  else beginH k o now r
/-- A packet that is filled up. -/
def recv1 (k : Lk) (o : Ou) (now : Int) (r : Rec) : Lk × Ou :=
  if r.f = false then procL k o now r
  else if r.a = 4294967295 then allocL k o r
  else if r.a < 1 ∨ k.n < r.a then (k, refuseO o r.a 11)
  else if r.b = 6 then renewL k o r
  else if r.b = 17 then cancL k o r.a
  else beginL k o now r
def recvL (k : Lk) (now : Int) (p : Rec) : Lk × Ou :=
  if now < 0 ∨ 1099511627776 < now then (k, o0)
  else if chkE p.f p.b p.c p.d p.s.length ≠ 0 then tickL k now
  else recv1 (tickL k now).1 (tickL k now).2 now (padR p)
/-! the reference -/
def firstB (k : Lk) (o : Ou) (r : Rec) : Lk × Ou :=
  if r.b ≠ 6 then (k, refuseO o r.a 3) else if r.c ≠ 8 then (k, refuseO o r.a 2) else if k.n ≥ 32 then (k, refuseO o r.a 12)
  else (⟨IntKind.i64.wrap (k.n + 1), k.st, k.a, k.cmd, k.len, k.s, k.q, k.t⟩, replyO o r.a 6 ((padR r).s.take 8 ++ b4 (IntKind.u32.wrap (IntKind.i64.wrap (k.n + 1)))))
def firstI (k : Lk) (o : Ou) (r : Rec) : Lk × Ou :=
  if r.c ≠ 8 then (k, refuseO o r.a 2)
  else if k.st ≠ 0 ∧ k.a = r.a then (idleL k, replyO ⟨o.ps, o.dl, o.ms, k.st == 2⟩ r.a 6 ((padR r).s.take 8 ++ b4 r.a))
  else (k, replyO o r.a 6 ((padR r).s.take 8 ++ b4 r.a))
def firstC (k : Lk) (o : Ou) (r : Rec) : Lk × Ou :=
  if (k.st ≠ 0 ∧ k.a = r.a) ∧ k.st = 1 then (idleL k, o) else (k, ⟨o.ps, o.dl, o.ms, if k.st ≠ 0 then k.a == r.a else false⟩)
def firstN (k : Lk) (o : Ou) (now : Int) (r : Rec) : Lk × Ou :=
  if (k.st ≠ 0 ∧ k.a = r.a) ∧ k.st = 1 then (idleL k, refuseO o r.a 33)
  else if k.st ≠ 0 then (k, refuseO o r.a 32)
  else if r.b ≠ 1 ∧ r.b ≠ 3 then (k, refuseO o r.a 3)
  else if r.c > 4096 then (k, refuseO o r.a 8)
  else handleR ⟨k.n, 1, r.a, r.b, r.c, (padR r).s.take (imin r.c 57).toNat, 0, now⟩ o now
def firstL (k : Lk) (o : Ou) (now : Int) (r : Rec) : Lk × Ou :=
  if r.a = 4294967295 then firstB k o r
  else if r.a = 0 ∨ IntKind.u32.wrap k.n < r.a then (k, refuseO o r.a 11)
  else if r.b = 6 then firstI k o r
  else if r.b = 17 then firstC k o r
  else firstN k o now r
def recvR (k : Lk) (now : Int) (p : Rec) : Lk × Ou :=
  if now < 0 ∨ 1099511627776 < now then (k, o0)
  else if chkE p.f p.b p.c p.d p.s.length ≠ 0 then tickR k now
  else if p.f = false then nextL (tickR k now).1 (tickR k now).2 now p
  else firstL (tickR k now).1 (tickR k now).2 now p

/-! what is always so -/
structure LInv (k : Lk) : Prop where
  n0 : 0 ≤ k.n
  n1 : k.n ≤ 32
  t0 : 0 ≤ k.t
  t1 : k.t ≤ 1099511627776
  l0 : 0 ≤ k.len
  l1 : k.len ≤ 4096
  ls : (k.s.length : Int) ≤ k.len
  c : k.st = 1 → k.cmd = 1 ∨ k.cmd = 3
  s0 : k.st = 0 ∨ k.st = 1 ∨ k.st = 2
theorem tick_eq (k : Lk) (now : Int) (h : LInv k) : tickL k now = tickR k now := by
  obtain ⟨h1, h2, h3, h4, h5, h6, h7, h8, h9⟩ := h
  unfold tickL tickR
  by_cases hn : now < 0 ∨ 1099511627776 < now
  · rw [if_pos (by omega), if_pos (by omega)]
  · rw [wrap_i64 (n := now - 20) (by omega) (by omega), wrap_i64 (n := now - k.t) (by omega) (by omega)]
    by_cases hs : k.st ≠ 1 ∨ now - 20 ≤ k.t
    · rw [if_pos (by omega), if_pos (by omega)]
    · rw [if_neg (by omega), if_neg (by omega)]
theorem handle_eq (k : Lk) (o : Ou) (now : Int) (h : k.cmd = 1 ∨ k.cmd = 3) : handleL k o now = handleR k o now := by
  unfold handleL handleR
  split
  · rfl
  · rcases h with h | h
    · rw [if_pos (by omega), if_pos h, h]
    · rw [if_neg (by omega), if_neg (by omega)]
theorem pad_len (r : Rec) (h : okR r) : (padR r).s.length = match r.f with | true => 57 | false => 59 := by
  unfold okR chkE at h
  cases hf : r.f with
  | true =>
    rw [hf] at h
    simp only [padR, hf, List.length_append, List.length_replicate]
    simp only at h
    (repeat' split at h) <;> omega
  | false =>
    rw [hf] at h
    simp only [padR, hf, List.length_append, List.length_replicate]
    simp only at h
    (repeat' split at h) <;> omega
theorem ok_first {r : Rec} (h : okR r) (hf : r.f = true) : 1 ≤ r.b ∧ r.b ≤ 127 ∧ 0 ≤ r.c ∧ r.c ≤ 65535 ∧ r.d = 0 ∧ r.s.length ≤ 57 := by
  unfold okR chkE at h
  rw [hf] at h
  simp only at h
  (repeat' split at h) <;> omega
theorem ok_next {r : Rec} (h : okR r) (hf : r.f = false) : 0 ≤ r.d ∧ r.d ≤ 127 ∧ r.b = 0 ∧ r.c = 0 ∧ r.s.length ≤ 59 := by
  unfold okR chkE at h
  rw [hf] at h
  simp only at h
  (repeat' split at h) <;> omega
theorem proc_eq (k : Lk) (o : Ou) (now : Int) (r : Rec) (h : LInv k) (ho : okR r) (hf : r.f = false) : procL k o now (padR r) = nextL k o now r := by
  have hl := pad_len r ho
  rw [hf] at hl
  simp only at hl
  have e1 : (padR r).a = r.a := rfl
  have e2 : (padR r).d = r.d := rfl
  unfold procL nextL
  rw [e1, e2]
  split
  · rfl
  · rename_i h1
    split
    · rfl
    · rename_i h2
      split
      · rw [show k.a = r.a by omega]
      · rename_i h3
        have hc := h.c (by omega)
        rw [handle_eq ⟨k.n, k.st, k.a, k.cmd, k.len, extL k.s (padR r).s k.len, IntKind.i64.wrap (k.q + 1), now⟩ o now hc, show k.q + 1 = r.d + 1 by omega]
        have h4 := h.l0
        have h5 := h.l1
        have h6 := h.ls
        rw [wrap_i64 (n := k.len - k.s.length) (by omega) (by omega), extL, hl]
        congr 3
        unfold imin imax
        repeat' split
        all_goals first | rfl | omega
theorem first_eq (k : Lk) (o : Ou) (now : Int) (r : Rec) (h : LInv k) (hc : o.cn = false) (hr : inK .u32 r.a = true) (ho : okR r) (hf : r.f = true) : recv1 k o now (padR r) = firstL k o now r := by
  have hl := pad_len r ho
  rw [hf] at hl
  simp only at hl
  have hg := ok_first ho hf
  have ha := in_u32.1 hr
  have e0 : (padR r).f = true := hf
  have e1 : (padR r).a = r.a := rfl
  have e2 : (padR r).b = r.b := rfl
  have e3 : (padR r).c = r.c := rfl
  have h0 := h.n0
  have h1 := h.n1
  have h9 := h.s0
  unfold recv1 firstL
  rw [e0, e1, e2, if_neg (by simp), wrap_u32 (n := k.n) (by omega) (by omega)]
  by_cases hb : r.a = 4294967295
  · rw [if_pos hb, if_pos hb]
    unfold allocL firstB
    rw [e2, e3, hb]
  · rw [if_neg hb, if_neg hb]
    by_cases hz : r.a < 1 ∨ k.n < r.a
    · rw [if_pos hz, if_pos (by omega)]
    · rw [if_neg hz, if_neg (show ¬ (r.a = 0 ∨ k.n < r.a) by omega)]
      by_cases h6 : r.b = 6
      · rw [if_pos h6, if_pos h6]
        rfl
      · rw [if_neg h6, if_neg h6]
        by_cases h17 : r.b = 17
        · rw [if_pos h17, if_pos h17]
          unfold cancL firstC
          by_cases hm : k.st ≠ 0 ∧ k.a = r.a
          · rw [if_pos hm]
            by_cases h1 : k.st = 1
            · rw [if_pos h1, if_pos ⟨hm, h1⟩]
            · rw [if_neg h1, if_neg (fun hh => h1 hh.2), if_pos hm.1, show (k.a == r.a) = true by simp [hm.2]]
          · rw [if_neg hm, if_neg (fun hh => hm hh.1), show (if k.st ≠ 0 then k.a == r.a else false) = false by
              split
              · rename_i hst
                have : k.a ≠ r.a := fun e => hm ⟨hst, e⟩
                simpa using this
              · rfl]
            obtain ⟨a, b, c, d⟩ := o
            simp only at hc
            rw [hc]
        · rw [if_neg h17, if_neg h17]
          unfold beginL firstN beginH
          rw [e1, e2, e3]
          by_cases hm : k.st = 1 ∧ k.a = r.a
          · rw [if_pos hm, if_pos (by omega)]
          · rw [if_neg hm, if_neg (show ¬ ((k.st ≠ 0 ∧ k.a = r.a) ∧ k.st = 1) from fun hh => hm ⟨hh.2, hh.1.2⟩)]
            by_cases hs : k.st ≠ 0
            · rw [if_pos hs, if_pos hs]
            · rw [if_neg hs, if_neg hs]
              by_cases hk : r.b ≠ 1 ∧ r.b ≠ 3
              · rw [if_pos hk, if_pos hk]
              · rw [if_neg hk, if_neg hk]
                by_cases hg4 : r.c > 4096
                · rw [if_pos hg4, if_pos hg4]
                · rw [if_neg hg4, if_neg hg4]
                  rw [handle_eq ⟨k.n, 1, r.a, r.b, r.c, extL [] (padR r).s r.c, 0, now⟩ o now (by show r.b = 1 ∨ r.b = 3; omega), extL, hl]
                  simp only [List.length_nil, List.nil_append]
                  congr 3
                  unfold imin imax
                  repeat' split
                  all_goals first | rfl | omega
theorem tick_cn (k : Lk) (now : Int) : (tickR k now).2.cn = false := by unfold tickR; split <;> rfl
theorem idle_inv {k : Lk} (h : LInv k) : LInv (idleL k) := ⟨h.n0, h.n1, Int.le_refl 0, (show (0 : Int) ≤ 1099511627776 by decide), Int.le_refl 0, (show (0 : Int) ≤ 4096 by decide), Int.le_refl 0, (fun h => by cases h), .inl rfl⟩
theorem tick_inv {k : Lk} (now : Int) (h : LInv k) : LInv (tickR k now).1 := by
  unfold tickR
  split
  · exact h
  · exact idle_inv h
theorem recv_eq (k : Lk) (now : Int) (p : Rec) (h : LInv k) (hr : p.f = true → inK .u32 p.a = true) : recvL k now p = recvR k now p := by
  unfold recvL recvR
  rw [tick_eq k now h]
  split
  · rfl
  · split
    · rfl
    · rename_i hk
      have ho : okR p := by unfold okR; omega
      split
      · rename_i hf
        rw [recv1, if_pos (show (padR p).f = false from hf)]
        exact proc_eq _ _ _ _ (tick_inv now h) ho hf
      · rename_i hf
        exact first_eq _ _ _ _ (tick_inv now h) (tick_cn k now) (hr (by simpa using hf)) ho (by simpa using hf)
theorem answ_inv {k : Lk} (x : List Int) (h : LInv k) : LInv (answL k x).1 := by
  unfold answL
  split
  · exact h
  · split
    · exact h
    · exact idle_inv h
theorem handle_inv {k : Lk} {o : Ou} {now : Int} (h : LInv k) (h1 : 0 ≤ now) (h2 : now ≤ 1099511627776) : LInv (handleL k o now).1 := by
  unfold handleL
  split
  · exact h
  · split
    · exact idle_inv h
    · exact ⟨h.n0, h.n1, h1, h2, Int.le_refl 0, (show (0 : Int) ≤ 4096 by decide), Int.le_refl 0, (fun h => by cases h), .inr (.inr rfl)⟩
theorem ext_len (b m : List Int) (n : Int) (hb : (b.length : Int) ≤ n) : ((extL b m n).length : Int) ≤ n := by
  unfold extL
  rw [List.length_append, List.length_take]
  unfold imin imax
  repeat' split
  all_goals omega
theorem recv_inv {k : Lk} {now : Int} {p : Rec} (h : LInv k) : LInv (recvL k now p).1 := by
  have ht : LInv (tickL k now).1 := by rw [tick_eq k now h]; exact tick_inv now h
  unfold recvL
  split
  · exact h
  · rename_i hn
    split
    · exact ht
    · rename_i hk
      have ho : okR p := by unfold okR; omega
      generalize (tickL k now).1 = k1 at ht
      generalize (tickL k now).2 = o1
      have e0 : (padR p).f = p.f := rfl
      have e2 : (padR p).b = p.b := rfl
      have e3 : (padR p).c = p.c := rfl
      have h0 := ht.n0
      have h1 := ht.n1
      unfold recv1
      split
      · unfold procL
        split
        · exact ht
        · split
          · exact ht
          · split
            · exact idle_inv ht
            · exact handle_inv ⟨ht.n0, ht.n1, (show 0 ≤ now by omega), (show now ≤ _ by omega), ht.l0, ht.l1, ext_len _ _ _ ht.ls, ht.c, ht.s0⟩ (by omega) (by omega)
      · rename_i hf
        have hf' : p.f = true := by rw [e0] at hf; simpa using hf
        have hg := ok_first ho hf'
        split
        · unfold allocL
          split
          · exact ht
          · split
            · exact ht
            · split
              · exact ht
              · refine ⟨?_, ?_, ht.t0, ht.t1, ht.l0, ht.l1, ht.ls, ht.c, ht.s0⟩
                · show 0 ≤ IntKind.i64.wrap (k1.n + 1)
                  rw [wrap_i64 (by omega) (by omega)]; omega
                · show IntKind.i64.wrap (k1.n + 1) ≤ 32
                  rw [wrap_i64 (by omega) (by omega)]; omega
        · split
          · exact ht
          · split
            · unfold renewL
              split
              · exact ht
              · split
                · exact idle_inv ht
                · exact ht
            · split
              · unfold cancL
                split
                · split
                  · exact idle_inv ht
                  · exact ht
                · exact ht
              · unfold beginL beginH
                rw [e2, e3]
                split
                · exact idle_inv ht
                · split
                  · exact ht
                  · split
                    · exact ht
                    · split
                      · exact ht
                      · exact handle_inv ⟨ht.n0, ht.n1, (show 0 ≤ now by omega), (show now ≤ _ by omega), (show 0 ≤ p.c by omega), (show p.c ≤ 4096 by omega), ext_len _ _ _ (by simp; omega), (fun _ => by show p.b = 1 ∨ p.b = 3; omega), .inr (.inl rfl)⟩ (by omega) (by omega)
end Go.Proofs.Ytokeanadhihlfaa.V
