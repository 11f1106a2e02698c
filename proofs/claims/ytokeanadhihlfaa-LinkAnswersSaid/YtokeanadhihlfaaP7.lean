/-
  Links and ports, plainly: the packets of a message arrive one after another. No program in sight.
-/
import Derived.Test.YtokeanadhihlfaaP6
set_option linter.all false
namespace Go.Proofs.Ytokeanadhihlfaa.V
open Go

theorem ext_gen (b d : List Int) (c z : Nat) (n : Int) (hd : n - b.length = d.length) (hz : (d.take c).length + z = c) : extL b (d.take c ++ List.replicate z 0) n = b ++ d.take c := by
  have : (imax (imin (n - b.length) ((d.take c ++ List.replicate z 0).length : Nat)) 0).toNat = (d.take c).length := by
    rw [List.length_append, List.length_replicate, hz, hd, List.length_take]
    unfold imin imax
    (repeat' split) <;> omega
  unfold extL
  rw [this, List.take_left]
theorem ext_split (ch cmd : Int) (b : List Int) (h : splitE cmd b.length = 0) (i : Nat) (hi : i < (splitL ch cmd b).length) :
    extL (b.take (offs i)) (padR (spP ch cmd b i)).s b.length = b.take (offs (i + 1)) := by
  obtain ⟨_, h2⟩ := split_get ch cmd b h i hi
  cases i with
  | zero =>
    show extL [] (b.take 57 ++ List.replicate (57 - (b.take 57).length) 0) b.length = b.take (57 + 59 * 0)
    rw [ext_gen [] b 57 _ _ (by simp) (by simp; omega)]
    rfl
  | succ j =>
    have ho : offs (j + 1) < b.length := by rcases h2 with h2 | h2 <;> omega
    show extL (b.take (offs (j + 1))) ((b.drop (57 + 59 * j)).take 59 ++ List.replicate (59 - ((b.drop (57 + 59 * j)).take 59).length) 0) b.length = b.take (offs (j + 1 + 1))
    have e : offs (j + 1) = 57 + 59 * j := rfl
    rw [ext_gen _ _ 59 _ _ (by rw [List.length_take, List.length_drop]; omega) (by rw [List.length_take, List.length_drop]; omega), e, ← List.take_add]
    rfl
theorem last_iff (ch cmd : Int) (b : List Int) (h : splitE cmd b.length = 0) (i : Nat) (hi : i < (splitL ch cmd b).length) : b.length ≤ offs (i + 1) ↔ i + 1 = (splitL ch cmd b).length := by
  have hb : 1 ≤ cmd ∧ cmd ≤ 127 ∧ b.length ≤ 4096 := by
    unfold splitE at h
    (repeat' split at h) <;> omega
  have hn := split_len ch cmd b h
  have hc := count_div (c := b.length) (by omega) (by omega)
  simp only [offs]
  omega

/-! ### a link -/
def k2 : Lk := ⟨2, 0, 0, 0, 0, [], 0, 0⟩
/-- The link after i packets of the message; the last one came at time t. -/
def dlvK (b : List Int) (i : Nat) (t : Int) : Lk := ⟨2, 1, 1, 3, b.length, b.take (offs i), (i : Int) - 1, t⟩
def dlvB (t : Int) : Lk := ⟨2, 2, 1, 3, 0, [], 0, t⟩
theorem tick_idle (k : Lk) (now : Int) (h : k.st ≠ 1) : tickL k now = (k, o0) := by rw [tickL, if_pos (.inr (.inr (.inl h)))]
theorem tick_soon (k : Lk) (now : Int) (h0 : 0 ≤ now) (h1 : now ≤ 1099511627776) (h : now - 20 ≤ k.t) : tickL k now = (k, o0) := by
  rw [tickL, wrap_i64 (n := now - 20) (by omega) (by omega), if_pos (.inr (.inr (.inr h)))]
theorem spP_ok (ch cmd : Int) (b : List Int) (h : splitE cmd b.length = 0) (i : Nat) (hi : i < (splitL ch cmd b).length) : chkE (spP ch cmd b i).f (spP ch cmd b i).b (spP ch cmd b i).c (spP ch cmd b i).d (spP ch cmd b i).s.length = 0 := by
  have hb : 1 ≤ cmd ∧ cmd ≤ 127 ∧ b.length ≤ 4096 := by
    unfold splitE at h
    (repeat' split at h) <;> omega
  have hn := split_len ch cmd b h
  have hc := count_div (c := b.length) (by omega) (by omega)
  cases i with
  | zero =>
    simp only [spP, chkE, List.length_take]
    rw [if_neg (by omega), if_neg (by decide), if_neg (by omega)]
  | succ j =>
    simp only [spP, chkE, List.length_take]
    rw [if_neg (by omega), if_neg (by decide), if_neg (by omega)]
/-- The state in which packet i is awaited at time now. -/
inductive DInv (b : List Int) (i : Nat) (now : Int) : Lk → Prop
  | first : i = 0 → DInv b i now k2
  | next (t : Int) : 0 < i → t ≤ now → now ≤ t + 20 → DInv b i now (dlvK b i t)
def dlvN (b : List Int) (i : Nat) (now : Int) : Lk × Ou := if i + 1 = (splitL 1 3 b).length then (dlvB now, ⟨[], true, b, false⟩) else (dlvK b (i + 1) now, o0)
theorem handle_dlv (b : List Int) (h : splitE 3 b.length = 0) (i : Nat) (hi : i < (splitL 1 3 b).length) (now : Int) : handleL (dlvK b (i + 1) now) o0 now = dlvN b i now := by
  have hl := last_iff 1 3 b h i hi
  unfold handleL dlvN
  by_cases he : i + 1 = (splitL 1 3 b).length
  · have hb := hl.2 he
    have hx : ¬ ((dlvK b (i + 1) now).s.length : Int) < (dlvK b (i + 1) now).len := by
      show ¬ ((b.take (offs (i + 1))).length : Int) < b.length
      rw [List.take_of_length_le hb]; omega
    have hy : ¬ (dlvK b (i + 1) now).cmd ≠ 3 := by show ¬ (3 : Int) ≠ 3; decide
    rw [if_neg hx, if_neg hy, if_pos he]
    show (dlvB now, (⟨[], true, b.take (offs (i + 1)), false⟩ : Ou)) = _
    rw [List.take_of_length_le hb]
  · have hb : ¬ b.length ≤ offs (i + 1) := fun x => he (hl.1 x)
    have hx : ((dlvK b (i + 1) now).s.length : Int) < (dlvK b (i + 1) now).len := by
      show ((b.take (offs (i + 1))).length : Int) < b.length
      rw [List.length_take]; omega
    rw [if_pos hx, if_neg he]
theorem recv_dlv (b : List Int) (h : splitE 3 b.length = 0) (i : Nat) (hi : i < (splitL 1 3 b).length) (now : Int) (k : Lk) (hk : DInv b i now k) (h0 : 0 ≤ now) (h1 : now ≤ 1099511627776) : recvL k now (spP 1 3 b i) = dlvN b i now := by
  have hb : b.length ≤ 4096 := by
    unfold splitE at h
    (repeat' split at h) <;> omega
  have hn := split_len 1 3 b h
  have hc := count_div (c := b.length) (by omega) (by omega)
  have he := ext_split 1 3 b h i hi
  unfold recvL
  rw [if_neg (by omega), spP_ok 1 3 b h i hi, if_neg (by decide)]
  cases hk with
  | first e =>
    subst e
    rw [tick_idle k2 now (by decide), recv1, if_neg (by simp [padR, spP]), if_neg (by simp [padR, spP]), if_neg (by simp [padR, spP, k2]), if_neg (by simp [padR, spP]), if_neg (by simp [padR, spP])]
    unfold beginL
    rw [if_neg (by simp [k2]), if_neg (by simp [k2]), if_neg (by simp [padR, spP]), if_neg (show ¬ (padR (spP 1 3 b 0)).c > 4096 by show ¬ (b.length : Int) > 4096; omega)]
    have e2 : extL [] (padR (spP 1 3 b 0)).s b.length = b.take (offs 1) := he
    show handleL ⟨2, 1, 1, 3, b.length, extL [] (padR (spP 1 3 b 0)).s b.length, 0, now⟩ o0 now = _
    rw [e2]
    exact handle_dlv b h 0 hi now
  | next t hp ht1 ht2 =>
    obtain ⟨j, rfl⟩ : ∃ j, i = j + 1 := ⟨i - 1, by omega⟩
    rw [tick_soon _ now h0 h1 (show now - 20 ≤ t by omega), recv1, if_pos (by simp [padR, spP])]
    unfold procL
    rw [if_neg (by simp [dlvK]), if_neg (by simp [dlvK, padR, spP]), if_neg (by simp [dlvK, padR, spP])]
    show handleL ⟨2, 1, 1, 3, b.length, extL (b.take (offs (j + 1))) (padR (spP 1 3 b (j + 1))).s b.length, IntKind.i64.wrap (((j + 1 : Nat) : Int) - 1 + 1), now⟩ o0 now = _
    rw [he, wrap_i64 (by omega) (by omega)]
    have := handle_dlv b h (j + 1) hi now
    rw [← this, dlvK]
    congr 2
    omega
/-- Another channel, meanwhile. -/
theorem recv_busy (b : List Int) (i : Nat) (now : Int) (x : List Int) (hx : x.length = 3) (h0 : 0 ≤ now) (h1 : now ≤ 1099511627776) : recvL (dlvK b i now) now ⟨2, 3, 3, 0, true, x⟩ = (dlvK b i now, refuseO o0 2 32) := by
  unfold recvL
  rw [if_neg (by omega), show chkE true 3 3 0 x.length = 0 by rw [hx]; rfl, if_neg (by decide), tick_soon _ now h0 h1 (show now - 20 ≤ now by omega)]
  rfl
theorem recv_stray (b : List Int) (i : Nat) (now d : Int) (x : List Int) (h0 : 0 ≤ now) (h1 : now ≤ 1099511627776) : recvL (dlvK b i now) now ⟨2, 0, 0, d, false, x⟩ = (dlvK b i now, o0) := by
  unfold recvL
  rw [if_neg (by omega), tick_soon _ now h0 h1 (show now - 20 ≤ now by omega)]
  split
  · rfl
  · rfl

/-! ### a port -/
def prtK (ch cmd : Int) (b : List Int) : Nat → Pt
  | 0 => awaitP ch
  | i + 1 => ⟨ch, cmd, b.length, b.take (offs (i + 1)), i⟩
def prtN (ch cmd : Int) (b : List Int) (i : Nat) : Acc := if i + 1 = (splitL ch cmd b).length then ⟨awaitP ch, cmd, b, true⟩ else accN (prtK ch cmd b (i + 1))
theorem accF_prt (ch cmd : Int) (b : List Int) (h : splitE cmd b.length = 0) (i : Nat) (hi : i < (splitL ch cmd b).length) : accF (prtK ch cmd b (i + 1)) ch = prtN ch cmd b i := by
  have hl := last_iff ch cmd b h i hi
  unfold accF prtN
  by_cases he : i + 1 = (splitL ch cmd b).length
  · have hb := hl.2 he
    have hx : ¬ ((prtK ch cmd b (i + 1)).s.length : Int) < (prtK ch cmd b (i + 1)).len := by
      show ¬ ((b.take (offs (i + 1))).length : Int) < b.length
      rw [List.take_of_length_le hb]; omega
    rw [if_neg hx, if_pos he]
    show (⟨awaitP ch, cmd, b.take (offs (i + 1)), true⟩ : Acc) = _
    rw [List.take_of_length_le hb]
  · have hb : ¬ b.length ≤ offs (i + 1) := fun x => he (hl.1 x)
    have hx : ((prtK ch cmd b (i + 1)).s.length : Int) < (prtK ch cmd b (i + 1)).len := by
      show ((b.take (offs (i + 1))).length : Int) < b.length
      rw [List.length_take]; omega
    rw [if_pos hx, if_neg he]
theorem acc_prt (ch cmd : Int) (b : List Int) (h : splitE cmd b.length = 0) (i : Nat) (hi : i < (splitL ch cmd b).length) : acceptL (prtK ch cmd b i) (spP ch cmd b i) = prtN ch cmd b i := by
  have hb : b.length ≤ 4096 := by
    unfold splitE at h
    (repeat' split at h) <;> omega
  have hn := split_len ch cmd b h
  have hc := count_div (c := b.length) (by omega) (by omega)
  have he := ext_split ch cmd b h i hi
  rw [← accF_prt ch cmd b h i hi]
  unfold acceptL
  rw [spP_ok ch cmd b h i hi, if_neg (by decide)]
  cases i with
  | zero =>
    have e2 : extL [] (padR (spP ch cmd b 0)).s b.length = b.take (offs 1) := he
    rw [if_neg (by simp [spP, prtK, awaitP])]
    show (if (b.length : Int) > 4096 then _ else accF ⟨ch, cmd, b.length, extL [] (padR (spP ch cmd b 0)).s b.length, 0⟩ ch) = _
    rw [if_neg (by omega), e2]
    rfl
  | succ j =>
    rw [if_neg (by simp [spP, prtK])]
    show (if (b.length : Int) < 0 then _ else if (j : Int) ≠ j then _ else accF ⟨ch, cmd, b.length, extL (b.take (offs (j + 1))) (padR (spP ch cmd b (j + 1))).s b.length, IntKind.i64.wrap ((j : Int) + 1)⟩ ch) = _
    rw [if_neg (by omega), if_neg (by simp), he, wrap_i64 (by omega) (by omega)]
    rfl
theorem acc_other (p : Pt) (r : Rec) (h : r.a ≠ p.ch) : acceptL p r = accN p := by
  unfold acceptL
  split
  · rfl
  · first | rfl | rw [if_pos h]
theorem split_get' (ch cmd : Int) (b : List Int) (h : splitE cmd b.length = 0) (i : Nat) (hi : i < (splitL ch cmd b).length) : (splitL ch cmd b).getD i default = spP ch cmd b i := by
  rw [List.getD, (split_get ch cmd b h i hi).1]
  rfl
theorem spP_a (ch cmd : Int) (b : List Int) (i : Nat) : (spP ch cmd b i).a = ch := by cases i <;> rfl

/-! ### at most one message at a time -/
structure Once (k k' : Lk) (o : Ou) (p : Rec) : Prop where
  d : o.dl = true → k.st ≠ 2 ∧ k'.st = 2 ∧ k'.a = p.a
  b : o.dl = false → k.st = 2 → (k'.st = 2 ∧ k'.a = k.a) ∨ (k'.st = 0 ∧ o.cn = true)
  n : o.dl = false → k.st ≠ 2 → k'.st ≠ 2
  z : o.dl = false → k'.st = 2 → k'.a = k.a
theorem once_same (k : Lk) (o : Ou) (p : Rec) (h : o.dl = false) : Once k k o p := ⟨fun e => by rw [h] at e; (cases e), fun _ e => .inl ⟨e, rfl⟩, fun _ e => e, fun _ _ => rfl⟩
theorem once_idle (k : Lk) (o : Ou) (p : Rec) (h : o.dl = false) (hs : k.st ≠ 2) : Once k (idleL k) o p := ⟨fun e => by rw [h] at e; (cases e), fun _ e => absurd e hs, fun _ _ => by show (0 : Int) ≠ 2; decide, fun _ e => by cases e⟩
theorem once_handle (k k0 : Lk) (o : Ou) (now : Int) (p : Rec) (h : o.dl = false) (hs : k.st ≠ 2) (h0 : k0.st ≠ 2) (ha : k0.a = p.a) : Once k (handleL k0 o now).1 (handleL k0 o now).2 p := by
  unfold handleL
  split
  · exact ⟨fun e => by rw [h] at e; (cases e), fun _ e => absurd e hs, fun _ _ => h0, fun _ e => absurd e h0⟩
  · split
    · exact ⟨fun e => by have : o.dl = true := e; rw [h] at this; (cases this), fun _ e => absurd e hs, fun _ _ => by show (0 : Int) ≠ 2; decide, fun _ e => by cases e⟩
    · exact ⟨fun _ => ⟨hs, rfl, ha⟩, (fun e => by cases e), (fun e => by cases e), (fun e => by cases e)⟩
theorem recv_once1 (k : Lk) (o : Ou) (now : Int) (p : Rec) (h : o.dl = false) (hs : k.st = 0 ∨ k.st = 1 ∨ k.st = 2) : Once k (recv1 k o now (padR p)).1 (recv1 k o now (padR p)).2 p := by
  have e1 : (padR p).a = p.a := rfl
  unfold recv1
  split
  · unfold procL
    split
    · exact once_same _ _ _ h
    · split
      · exact once_same _ _ _ h
      · split
        · exact once_idle _ _ _ h (by omega)
        · rename_i h1 h2 h3
          exact once_handle _ _ _ _ _ h (by omega) (show k.st ≠ 2 by omega) (show k.a = p.a by rw [e1] at h2; omega)
  · split
    · unfold allocL
      split
      · exact once_same _ _ _ h
      · split
        · exact once_same _ _ _ h
        · split
          · exact once_same _ _ _ h
          · exact ⟨fun e => by have : o.dl = true := e; rw [h] at this; (cases this), fun _ e => .inl ⟨e, rfl⟩, fun _ e => e, fun _ _ => rfl⟩
    · split
      · exact once_same _ _ _ h
      · split
        · unfold renewL
          split
          · exact once_same _ _ _ h
          · split
            · refine ⟨fun e => by have : o.dl = true := e; rw [h] at this; (cases this), fun _ e => .inr ⟨rfl, ?_⟩, fun _ _ => by show (0 : Int) ≠ 2; decide, fun _ e => by cases e⟩
              show (k.st == 2) = true
              rw [e]
              rfl
            · exact once_same _ _ _ h
        · split
          · unfold cancL
            split
            · split
              · exact once_idle _ _ _ h (by omega)
              · exact once_same _ _ _ h
            · exact once_same _ _ _ h
          · unfold beginL beginH
            split
            · exact once_idle _ _ _ h (by omega)
            · split
              · exact once_same _ _ _ h
              · rename_i hs0
                split
                · exact once_same _ _ _ h
                · split
                  · exact once_same _ _ _ h
                  · exact once_handle _ _ _ _ _ h (by omega) (show (1 : Int) ≠ 2 by decide) rfl
theorem recv_once (k : Lk) (now : Int) (p : Rec) (hs : LInv k) : Once k (recvL k now p).1 (recvL k now p).2 p := by
  have h9 := hs.s0
  have hd0 : o0.dl = false := rfl
  unfold recvL
  split
  · exact once_same _ _ _ rfl
  · have ht : (tickL k now).2.dl = false ∧ ((tickL k now).1 = k ∨ (k.st = 1 ∧ (tickL k now).1 = idleL k)) := by
      unfold tickL
      split
      · exact ⟨rfl, .inl rfl⟩
      · exact ⟨rfl, .inr ⟨by omega, rfl⟩⟩
    obtain ⟨h1, h2⟩ := ht
    generalize tickL k now = T at *
    obtain ⟨k1, o1⟩ := T
    simp only at h1 h2
    split
    · rcases h2 with h2 | ⟨h3, h2⟩
      · rw [h2]
        exact once_same _ _ _ h1
      · rw [h2]
        exact once_idle _ _ _ h1 (by omega)
    · rcases h2 with h2 | ⟨h3, h2⟩
      · rw [h2]
        exact recv_once1 k o1 now p h1 h9
      · rw [h2]
        have := recv_once1 (idleL k) o1 now p h1 (.inl rfl)
        exact ⟨fun e => ⟨by omega, (this.d e).2⟩, fun _ e => by omega, fun e _ => this.n e (by show (0 : Int) ≠ 2; decide), fun e e2 => absurd e2 (this.n e (by show (0 : Int) ≠ 2; decide))⟩
end Go.Proofs.Ytokeanadhihlfaa.V
