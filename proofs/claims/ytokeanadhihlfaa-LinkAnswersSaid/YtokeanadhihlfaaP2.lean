/-
  Packets, plainly: what is encoded is decoded again, and the other way round; the packets of a message are joined again. No program in sight.
-/
import Derived.Test.YtokeanadhihlfaaP1
set_option linter.all false
namespace Go.Proofs.Ytokeanadhihlfaa.V
open Go

theorem ofInt_nat (w n : Nat) : BitVec.ofInt w (n : Int) = BitVec.ofNat w n := by
  apply BitVec.eq_of_toNat_eq
  simp [BitVec.toNat_ofInt]
theorem or_add (x y i a : Nat) (hx : x = 2 ^ i * a) (hy : y < 2 ^ i) : x ||| y = x + y := by
  rw [hx]
  exact (Nat.two_pow_add_eq_or_of_lt hy a).symm
theorem ior_u32 (x y i a : Nat) (hx : x = 2 ^ i * a) (hy : y < 2 ^ i) (h : x + y < 4294967296) : ior .u32 (x : Int) (y : Int) = ((x + y : Nat) : Int) := by
  show IntKind.u32.wrap (BitVec.ofInt 32 x ||| BitVec.ofInt 32 y).toNat = _
  rw [ofInt_nat, ofInt_nat, BitVec.toNat_or, BitVec.toNat_ofNat, BitVec.toNat_ofNat, Nat.mod_eq_of_lt (by omega), Nat.mod_eq_of_lt (by omega), or_add x y i a hx hy, wrap_u32 (by omega) (by omega)]
theorem ior_i64 (x y i a : Nat) (hx : x = 2 ^ i * a) (hy : y < 2 ^ i) (h : x + y < 9223372036854775808) : ior .i64 (x : Int) (y : Int) = ((x + y : Nat) : Int) := by
  show IntKind.i64.wrap (BitVec.ofInt 64 x ||| BitVec.ofInt 64 y).toNat = _
  rw [ofInt_nat, ofInt_nat, BitVec.toNat_or, BitVec.toNat_ofNat, BitVec.toNat_ofNat, Nat.mod_eq_of_lt (by omega), Nat.mod_eq_of_lt (by omega), or_add x y i a hx hy, wrap_i64 (by omega) (by omega)]
theorem shl_u32_24 (x : Int) (h0 : 0 ≤ x) (h1 : x ≤ 255) : shl .u32 x 24 = x * 16777216 := by
  show IntKind.u32.wrap (x * 16777216) = _
  exact wrap_u32 (by omega) (by omega)
theorem shl_u32_16 (x : Int) (h0 : 0 ≤ x) (h1 : x ≤ 255) : shl .u32 x 16 = x * 65536 := by
  show IntKind.u32.wrap (x * 65536) = _
  exact wrap_u32 (by omega) (by omega)
theorem shl_u32_8 (x : Int) (h0 : 0 ≤ x) (h1 : x ≤ 255) : shl .u32 x 8 = x * 256 := by
  show IntKind.u32.wrap (x * 256) = _
  exact wrap_u32 (by omega) (by omega)
theorem shl_i64_8 (x : Int) (h0 : 0 ≤ x) (h1 : x ≤ 255) : shl .i64 x 8 = x * 256 := by
  show IntKind.i64.wrap (x * 256) = _
  exact wrap_i64 (by omega) (by omega)
theorem fdiv_pos (x y : Int) (hx : 0 ≤ x) (hy : 0 < y) : x.fdiv y = x / y := by
  rw [Int.fdiv_eq_ediv_of_nonneg _ (by omega)]
theorem shr_24 (x : Int) : shr .u32 x 24 = x / 16777216 := by show x.fdiv 16777216 = _; rw [Int.fdiv_eq_ediv_of_nonneg _ (by omega)]
theorem shr_16 (x : Int) : shr .u32 x 16 = x / 65536 := by show x.fdiv 65536 = _; rw [Int.fdiv_eq_ediv_of_nonneg _ (by omega)]
theorem shr_8 (x : Int) : shr .u32 x 8 = x / 256 := by show x.fdiv 256 = _; rw [Int.fdiv_eq_ediv_of_nonneg _ (by omega)]
theorem shr_i8 (x : Int) : shr .i64 x 8 = x / 256 := by show x.fdiv 256 = _; rw [Int.fdiv_eq_ediv_of_nonneg _ (by omega)]
/-- Four bytes as a number. -/
theorem ch4_eq (l : List Int) (h : RngL .u8 l) : ch4 l = l.getD 0 0 * 16777216 + l.getD 1 0 * 65536 + l.getD 2 0 * 256 + l.getD 3 0 := by
  have h0 := rng_at h 0
  have h1 := rng_at h 1
  have h2 := rng_at h 2
  have h3 := rng_at h 3
  unfold ch4
  generalize l.getD 0 0 = x0 at *
  generalize l.getD 1 0 = x1 at *
  generalize l.getD 2 0 = x2 at *
  generalize l.getD 3 0 = x3 at *
  obtain ⟨n0, rfl⟩ : ∃ n : Nat, x0 = n := ⟨x0.toNat, by omega⟩
  obtain ⟨n1, rfl⟩ : ∃ n : Nat, x1 = n := ⟨x1.toNat, by omega⟩
  obtain ⟨n2, rfl⟩ : ∃ n : Nat, x2 = n := ⟨x2.toNat, by omega⟩
  obtain ⟨n3, rfl⟩ : ∃ n : Nat, x3 = n := ⟨x3.toNat, by omega⟩
  rw [wrap_u32 (n := n0) (by omega) (by omega), wrap_u32 (n := n1) (by omega) (by omega), wrap_u32 (n := n2) (by omega) (by omega), wrap_u32 (n := n3) (by omega) (by omega),
    shl_u32_24 _ (by omega) (by omega), shl_u32_16 _ (by omega) (by omega), shl_u32_8 _ (by omega) (by omega)]
  rw [show (n0 : Int) * 16777216 = ((n0 * 16777216 : Nat) : Int) by omega, show (n1 : Int) * 65536 = ((n1 * 65536 : Nat) : Int) by omega, show (n2 : Int) * 256 = ((n2 * 256 : Nat) : Int) by omega]
  rw [ior_u32 _ _ 24 n0 (by omega) (by omega) (by omega), ior_u32 _ _ 16 (n0 * 256 + n1) (by omega) (by omega) (by omega), ior_u32 _ _ 8 (n0 * 65536 + n1 * 256 + n2) (by omega) (by omega) (by omega)]
  omega
theorem len2_eq (l : List Int) (h : RngL .u8 l) : len2 l = l.getD 5 0 * 256 + l.getD 6 0 := by
  have h0 := rng_at h 5
  have h1 := rng_at h 6
  unfold len2
  generalize l.getD 5 0 = x0 at *
  generalize l.getD 6 0 = x1 at *
  obtain ⟨n0, rfl⟩ : ∃ n : Nat, x0 = n := ⟨x0.toNat, by omega⟩
  obtain ⟨n1, rfl⟩ : ∃ n : Nat, x1 = n := ⟨x1.toNat, by omega⟩
  rw [wrap_i64 (n := n0) (by omega) (by omega), wrap_i64 (n := n1) (by omega) (by omega), shl_i64_8 _ (by omega) (by omega), show (n0 : Int) * 256 = ((n0 * 256 : Nat) : Int) by omega,
    ior_i64 _ _ 8 n0 (by omega) (by omega) (by omega)]
  omega
theorem b4_eq (a : Int) : b4 a = [a / 16777216 % 256, a / 65536 % 256, a / 256 % 256, a % 256] := by
  simp only [b4, shr_24, shr_16, shr_8, wrap_u8_eq]
/-- A packet with its data filled up by zero bytes. -/
def padR (r : Rec) : Rec := ⟨r.a, r.b, r.c, r.d, r.f, r.s ++ List.replicate ((match r.f with | true => 57 | false => 59) - r.s.length) 0⟩
def okR (r : Rec) : Prop := chkE r.f r.b r.c r.d r.s.length = 0
theorem encL_ok (r : Rec) (h : okR r) : encL r.a r.f r.b r.c r.d r.s = encB r.a r.f r.b r.c r.d r.s := if_pos h
theorem encB_len (r : Rec) (h : okR r) : (encB r.a r.f r.b r.c r.d r.s).length = 64 := by
  unfold okR chkE at h
  unfold encB
  cases hf : r.f with
  | true => rw [hf] at h; simp only at h; (repeat' split at h) <;> simp [b4] <;> omega
  | false => rw [hf] at h; simp only at h; (repeat' split at h) <;> simp [b4] <;> omega
theorem encB_rng (r : Rec) (hr : RngR 0 r) : RngL .u8 (encB r.a r.f r.b r.c r.d r.s) := by
  obtain ⟨h1, h2, h3, h4, h5, h6⟩ := hr
  have w8 : ∀ n, inK .u8 (IntKind.u8.wrap n) = true := fun n => by rw [in_u8, wrap_u8_eq]; omega
  intro n hn
  unfold encB at hn
  cases hf : r.f with
  | true =>
    rw [hf] at hn
    simp only [b4, List.mem_append, List.mem_cons, List.not_mem_nil, or_false, List.mem_replicate] at hn
    rcases hn with (((h | h | h | h) | h | h | h) | h) | h
    all_goals first | (rw [h]; exact w8 _) | exact h5 n h | (rw [h.2]; decide)
  | false =>
    rw [hf] at hn
    simp only [b4, List.mem_append, List.mem_cons, List.not_mem_nil, or_false, List.mem_replicate] at hn
    rcases hn with (((h | h | h | h) | h) | h) | h
    all_goals first | (rw [h]; exact w8 _) | exact h5 n h | (rw [h.2]; decide)
/-- What is encoded is decoded again. -/
theorem dec_enc (r : Rec) (hr : RngR 0 r) (h : okR r) : decE (encB r.a r.f r.b r.c r.d r.s) = 0 ∧ decR (encB r.a r.f r.b r.c r.d r.s) = padR r := by
  have hl := encB_len r h
  have hg := encB_rng r hr
  have hch := ch4_eq _ hg
  have hl2 := len2_eq _ hg
  obtain ⟨h1, h2, h3, h4, h5, h6⟩ := hr
  rw [in_u32] at h1
  unfold okR chkE at h
  cases hf : r.f with
  | true =>
    rw [hf] at h
    rw [hf] at hl hch hl2
    have hb : 1 ≤ r.b ∧ r.b ≤ 127 ∧ 0 ≤ r.c ∧ r.c ≤ 65535 ∧ r.d = 0 ∧ r.s.length ≤ 57 := by
      simp only at h
      (repeat' split at h) <;> omega
    have e : encB r.a true r.b r.c r.d r.s = [r.a / 16777216 % 256, r.a / 65536 % 256, r.a / 256 % 256, r.a % 256, (128 + r.b) % 256, r.c / 256 % 256, r.c % 256] ++ (r.s ++ List.replicate (57 - r.s.length) 0) := by
      simp only [encB, b4_eq, shr_i8, wrap_u8_eq, List.append_assoc]
      rfl
    rw [e] at hl hch hl2 ⊢
    have g4 : ([r.a / 16777216 % 256, r.a / 65536 % 256, r.a / 256 % 256, r.a % 256, (128 + r.b) % 256, r.c / 256 % 256, r.c % 256] ++ (r.s ++ List.replicate (57 - r.s.length) 0)).getD 4 0 = (128 + r.b) % 256 := rfl
    have hE : decE ([r.a / 16777216 % 256, r.a / 65536 % 256, r.a / 256 % 256, r.a % 256, (128 + r.b) % 256, r.c / 256 % 256, r.c % 256] ++ (r.s ++ List.replicate (57 - r.s.length) 0)) = 0 := by
      rw [decE, if_neg (by omega), if_neg (by omega), g4, if_neg (by omega)]
    refine ⟨hE, ?_⟩
    rw [decR, if_neg (by rw [hE]; decide), g4, if_neg (by omega), hch, hl2]
    simp only [padR, hf]
    refine congr (congr (congr (congr (congr (congrArg Rec.mk ?_) ?_) ?_) ?_) rfl) rfl
    · show r.a / 16777216 % 256 * 16777216 + r.a / 65536 % 256 * 65536 + r.a / 256 % 256 * 256 + r.a % 256 = r.a
      omega
    · omega
    · show r.c / 256 % 256 * 256 + r.c % 256 = r.c
      omega
    · exact hb.2.2.2.2.1.symm
  | false =>
    rw [hf] at h
    rw [hf] at hl hch hl2
    have hb : 0 ≤ r.d ∧ r.d ≤ 127 ∧ r.b = 0 ∧ r.c = 0 ∧ r.s.length ≤ 59 := by
      simp only at h
      (repeat' split at h) <;> omega
    have e : encB r.a false r.b r.c r.d r.s = [r.a / 16777216 % 256, r.a / 65536 % 256, r.a / 256 % 256, r.a % 256, r.d % 256] ++ (r.s ++ List.replicate (59 - r.s.length) 0) := by
      simp only [encB, b4_eq, wrap_u8_eq, List.append_assoc]
      rfl
    rw [e] at hl hch hl2 ⊢
    have g4 : ([r.a / 16777216 % 256, r.a / 65536 % 256, r.a / 256 % 256, r.a % 256, r.d % 256] ++ (r.s ++ List.replicate (59 - r.s.length) 0)).getD 4 0 = r.d % 256 := rfl
    have hE : decE ([r.a / 16777216 % 256, r.a / 65536 % 256, r.a / 256 % 256, r.a % 256, r.d % 256] ++ (r.s ++ List.replicate (59 - r.s.length) 0)) = 0 := by
      rw [decE, if_neg (by omega), if_neg (by omega), g4, if_neg (by omega)]
    refine ⟨hE, ?_⟩
    rw [decR, if_neg (by rw [hE]; decide), g4, if_pos (by omega), hch]
    simp only [padR, hf]
    refine congr (congr (congr (congr (congr (congrArg Rec.mk ?_) ?_) ?_) ?_) rfl) rfl
    · show r.a / 16777216 % 256 * 16777216 + r.a / 65536 % 256 * 65536 + r.a / 256 % 256 * 256 + r.a % 256 = r.a
      omega
    · exact hb.2.2.1.symm
    · exact hb.2.2.2.1.symm
    · omega
theorem pad_ok (r : Rec) (h : okR r) : okR (padR r) ∧ encB (padR r).a (padR r).f (padR r).b (padR r).c (padR r).d (padR r).s = encB r.a r.f r.b r.c r.d r.s := by
  unfold okR chkE at *
  cases hf : r.f with
  | true =>
    rw [hf] at h
    simp only [padR, hf]
    simp only [List.length_append, List.length_replicate]
    constructor
    · simp only at h
      (repeat' split at h) <;> omega
    · have : r.s.length ≤ 57 := by
        simp only at h
        (repeat' split at h) <;> omega
      simp only [encB, List.length_append, List.length_replicate]
      rw [show 57 - (r.s.length + (57 - r.s.length)) = 0 by omega]
      simp
  | false =>
    rw [hf] at h
    simp only [padR, hf]
    simp only [List.length_append, List.length_replicate]
    constructor
    · simp only at h
      (repeat' split at h) <;> omega
    · have : r.s.length ≤ 59 := by
        simp only at h
        (repeat' split at h) <;> omega
      simp only [encB, List.length_append, List.length_replicate]
      rw [show 59 - (r.s.length + (59 - r.s.length)) = 0 by omega]
      simp
/-- What is decoded is encoded again. -/
theorem enc_dec (x : List Int) (hx : RngL .u8 x) (hl : x.length = 64) (h : decE x = 0) : okR (decR x) ∧ encB (decR x).a (decR x).f (decR x).b (decR x).c (decR x).d (decR x).s = x := by
  have h0 := rng_at hx 0
  have h1 := rng_at hx 1
  have h2 := rng_at hx 2
  have h3 := rng_at hx 3
  have h4 := rng_at hx 4
  have h5 := rng_at hx 5
  have h6 := rng_at hx 6
  have hne : x.getD 4 0 ≠ 128 := by
    intro e
    rw [decE, if_neg (by omega), if_neg (by omega), if_pos e] at h
    cases h
  rw [decR, if_neg (by rw [h]; decide)]
  have hd : ∀ k, x.drop k = x.drop k := fun _ => rfl
  split
  · rename_i hlt
    refine ⟨?_, ?_⟩
    · simp only [okR, chkE, List.length_drop]
      rw [if_neg (by omega), if_neg (by omega), if_neg (by omega)]
    · simp only [encB, b4_eq, ch4_eq x hx, wrap_u8_eq, List.length_drop, hl]
      match x, hl with
      | x0 :: x1 :: x2 :: x3 :: x4 :: t, hl =>
        simp only [List.getD_cons_zero, List.getD_cons_succ] at *
        simp only [List.drop_succ_cons, List.drop_zero, List.cons_append, List.nil_append, Nat.reduceSub, Nat.sub_self, List.replicate_zero, List.append_nil]
        refine congr (congrArg List.cons (by omega)) (congr (congrArg List.cons (by omega)) (congr (congrArg List.cons (by omega)) (congr (congrArg List.cons (by omega)) (congr (congrArg List.cons (by omega)) rfl))))
  · rename_i hlt
    refine ⟨?_, ?_⟩
    · simp only [okR, chkE, List.length_drop, len2_eq x hx]
      rw [if_neg (by omega), if_neg (by omega), if_neg (by omega)]
    · simp only [encB, b4_eq, ch4_eq x hx, len2_eq x hx, shr_i8, wrap_u8_eq, List.length_drop, hl]
      match x, hl with
      | x0 :: x1 :: x2 :: x3 :: x4 :: x5 :: x6 :: t, hl =>
        simp only [List.getD_cons_zero, List.getD_cons_succ] at *
        simp only [List.drop_succ_cons, List.drop_zero, List.cons_append, List.nil_append, Nat.reduceSub, Nat.sub_self, List.replicate_zero, List.append_nil]
        refine congr (congrArg List.cons (by omega)) (congr (congrArg List.cons (by omega)) (congr (congrArg List.cons (by omega)) (congr (congrArg List.cons (by omega)) (congr (congrArg List.cons (by omega)) (congr (congrArg List.cons (by omega)) (congr (congrArg List.cons (by omega)) rfl))))))
end Go.Proofs.Ytokeanadhihlfaa.V
