/-
  Operations that leave memory as it is (continued). Plain theorems; no function of the program is named here.
-/
import Derived.Test.YtnioiijcmdnhaaaVOp
import Derived.Laws.Strings
import Derived.Laws.Slices
set_option linter.all false
namespace Go.Proofs.Ytnioiijcmdnhaaa.V
open Go Go.RowKit

section
variable {P : Program} {Γ : TEnv} {n : Nat} {F0 : Fx} {w0 w w' : World} {σ : Sg} {S : Nat → Prop} {s : AS} {a : Act}
variable {k : AV → Prop}

theorem bytes_inj' : ∀ {x y : List UInt8}, (x.map fun b => (b.toNat : Int)) = (y.map fun b => (b.toNat : Int)) → x = y
  | [], [], _ => rfl
  | [], _ :: _, h => by simp at h
  | _ :: _, [], h => by simp at h
  | b :: x, c :: y, h => by
    simp only [List.map_cons, List.cons.injEq] at h
    have h1 : b.toNat = c.toNat := by have := h.1; omega
    rw [UInt8.toNat_inj.1 h1, bytes_inj' h.2]
theorem str_beq (x y : ByteArray) : (x.toList == y.toList) = strEq (x.toList.map fun b => (b.toNat : Int)) (y.toList.map fun b => (b.toNat : Int)) := by
  unfold strEq
  rw [Bool.eq_iff_iff]
  simp only [beq_iff_eq]
  exact ⟨fun h => by rw [h], fun h => bytes_inj' h⟩
theorem eqn_run {t e : TypeId} (hu : P.underlying t = some (.slice e)) (A : Option Addr) (n c d : Nat) (w' : World) : (Op.equalIn (d + 1) t (.slice A n c) (.slice none 0 0)).run P w' = .ok A.isNone w' := by
  cases A <;> simp [Op.equalIn, run_underlying hu]
theorem eqb_run {t : TypeId} (hu : P.underlying t = some .bool) (b b' : Bool) (d : Nat) (w' : World) : (Op.equalIn (d + 1) t (.bool b) (.bool b')).run P w' = .ok (b == b') w' := by
  simp only [Op.equalIn, Sem.run_bind, run_underlying hu, Result.andThen_ok]
  rfl
set_option maxHeartbeats 1000000 in
theorem bin_ok (hΓ : TOk P Γ) {t : TypeId} {op : BinOp} {x y : AV} {xo yo : Operand} {u v : Value} (hx : RepV w S σ x u) (hy : RepV w S σ y v) (h : bin Γ t op x y k) :
    ∃ z q, k z ∧ RepV w S σ z q ∧ Gives P S σ s.h w (do eqGuard op t xo yo u v; binOp op t u v) q := by
  cases x with
  | int kx m =>
    obtain ⟨rfl, hin⟩ := Rep1.int hx
    cases y with
    | int ky m' =>
      obtain ⟨rfl, hin'⟩ := Rep1.int hy
      simp only [bin] at h
      cases op with
      | shl =>
        obtain ⟨hc, h⟩ := chk_some h
        exact ⟨_, _, h, mk_int (wrap_in _ _), fun w' _ => by
          have hc' : ¬ m' < 0 := by simpa using hc
          simp [eqGuard, binOp, Op.shift, hc', shl]⟩
      | shr =>
        obtain ⟨hc, h⟩ := chk_some h
        exact ⟨_, _, h, mk_int (fdiv_in _ hin), fun w' _ => by
          have hc' : ¬ m' < 0 := by simpa using hc
          simp [eqGuard, binOp, Op.shift, hc', shr]⟩
      | add =>
        simp only at h
        cases hk : kbeq kx ky with
        | false => rw [hk] at h; cases h
        | true =>
          have := kbeq_true hk
          subst this
          rw [hk] at h
          simp only [bitsOp, iand, ior, ixor, iandn] at h
          exact ⟨_, _, h, mk_int (wrap_in _ _), fun w' _ => by simp [eqGuard, binOp, Op.intArith]⟩
      | sub =>
        simp only at h
        cases hk : kbeq kx ky with
        | false => rw [hk] at h; cases h
        | true =>
          have := kbeq_true hk
          subst this
          rw [hk] at h
          simp only [bitsOp, iand, ior, ixor, iandn] at h
          exact ⟨_, _, h, mk_int (wrap_in _ _), fun w' _ => by simp [eqGuard, binOp, Op.intArith]⟩
      | mul =>
        simp only at h
        cases hk : kbeq kx ky with
        | false => rw [hk] at h; cases h
        | true =>
          have := kbeq_true hk
          subst this
          rw [hk] at h
          simp only [bitsOp, iand, ior, ixor, iandn] at h
          exact ⟨_, _, h, mk_int (wrap_in _ _), fun w' _ => by simp [eqGuard, binOp, Op.intArith]⟩
      | and =>
        simp only at h
        cases hk : kbeq kx ky with
        | false => rw [hk] at h; cases h
        | true =>
          have := kbeq_true hk
          subst this
          rw [hk] at h
          simp only [bitsOp, iand, ior, ixor, iandn] at h
          exact ⟨_, _, h, mk_int (wrap_in _ _), fun w' _ => by simp [eqGuard, binOp, Op.intBits]⟩
      | or =>
        simp only at h
        cases hk : kbeq kx ky with
        | false => rw [hk] at h; cases h
        | true =>
          have := kbeq_true hk
          subst this
          rw [hk] at h
          simp only [bitsOp, iand, ior, ixor, iandn] at h
          exact ⟨_, _, h, mk_int (wrap_in _ _), fun w' _ => by simp [eqGuard, binOp, Op.intBits]⟩
      | xor =>
        simp only at h
        cases hk : kbeq kx ky with
        | false => rw [hk] at h; cases h
        | true =>
          have := kbeq_true hk
          subst this
          rw [hk] at h
          simp only [bitsOp, iand, ior, ixor, iandn] at h
          exact ⟨_, _, h, mk_int (wrap_in _ _), fun w' _ => by simp [eqGuard, binOp, Op.intBits]⟩
      | andNot =>
        simp only at h
        cases hk : kbeq kx ky with
        | false => rw [hk] at h; cases h
        | true =>
          have := kbeq_true hk
          subst this
          rw [hk] at h
          simp only [bitsOp, iand, ior, ixor, iandn] at h
          exact ⟨_, _, h, mk_int (wrap_in _ _), fun w' _ => by simp [eqGuard, binOp, Op.intBits]⟩
      | eql =>
        simp only at h
        cases hk : kbeq kx ky with
        | false => rw [hk] at h; cases h
        | true =>
          have := kbeq_true hk
          subst this
          rw [hk] at h
          simp only [bitsOp, iand, ior, ixor, iandn] at h
          exact ⟨_, _, h, mk_bool _, fun w' _ => by simp [eqGuard, binOp, Op.intCmp]⟩
      | neq =>
        simp only at h
        cases hk : kbeq kx ky with
        | false => rw [hk] at h; cases h
        | true =>
          have := kbeq_true hk
          subst this
          rw [hk] at h
          simp only [bitsOp, iand, ior, ixor, iandn] at h
          exact ⟨_, _, h, mk_bool _, fun w' _ => by simp [eqGuard, binOp, Op.intCmp]⟩
      | lss =>
        simp only at h
        cases hk : kbeq kx ky with
        | false => rw [hk] at h; cases h
        | true =>
          have := kbeq_true hk
          subst this
          rw [hk] at h
          simp only [bitsOp, iand, ior, ixor, iandn] at h
          exact ⟨_, _, h, mk_bool _, fun w' _ => by simp [eqGuard, binOp, Op.intCmp]⟩
      | leq =>
        simp only at h
        cases hk : kbeq kx ky with
        | false => rw [hk] at h; cases h
        | true =>
          have := kbeq_true hk
          subst this
          rw [hk] at h
          simp only [bitsOp, iand, ior, ixor, iandn] at h
          exact ⟨_, _, h, mk_bool _, fun w' _ => by simp [eqGuard, binOp, Op.intCmp]⟩
      | gtr =>
        simp only at h
        cases hk : kbeq kx ky with
        | false => rw [hk] at h; cases h
        | true =>
          have := kbeq_true hk
          subst this
          rw [hk] at h
          simp only [bitsOp, iand, ior, ixor, iandn] at h
          exact ⟨_, _, h, mk_bool _, fun w' _ => by simp [eqGuard, binOp, Op.intCmp]⟩
      | geq =>
        simp only at h
        cases hk : kbeq kx ky with
        | false => rw [hk] at h; cases h
        | true =>
          have := kbeq_true hk
          subst this
          rw [hk] at h
          simp only [bitsOp, iand, ior, ixor, iandn] at h
          exact ⟨_, _, h, mk_bool _, fun w' _ => by simp [eqGuard, binOp, Op.intCmp]⟩
      | quo =>
        simp only at h
        cases hk : kbeq kx ky with
        | false => rw [hk] at h; cases h
        | true =>
          have := kbeq_true hk
          subst this
          rw [hk] at h
          simp only [bitsOp, iand, ior, ixor, iandn] at h
          obtain ⟨hc, h⟩ := chk_some h
          have hc' : ¬ m' = 0 := by simpa using hc
          exact ⟨_, _, h, mk_int (wrap_in _ _), fun w' _ => by simp [eqGuard, binOp, Op.intDiv, hc']⟩
      | rem =>
        simp only at h
        cases hk : kbeq kx ky with
        | false => rw [hk] at h; cases h
        | true =>
          have := kbeq_true hk
          subst this
          rw [hk] at h
          simp only [bitsOp, iand, ior, ixor, iandn] at h
          obtain ⟨hc, h⟩ := chk_some h
          have hc' : ¬ m' = 0 := by simpa using hc
          exact ⟨_, _, h, mk_int (tmod_in _ hin), fun w' _ => by simp [eqGuard, binOp, Op.intDiv, hc']⟩
    | _ => simp [bin] at h
  | bool b =>
    have := Rep1.bool hx
    subst this
    cases y with
    | bool b' =>
      have := Rep1.bool hy
      subst this
      simp only [bin] at h
      cases ht : tget Γ t with
      | none => rw [ht] at h; cases h
      | some ti =>
        rw [ht] at h
        have hti := hΓ t ti ht
        cases ti with
        | bool =>
          have hu : P.underlying t = some .bool := hti.1
          have he : ∀ w', (Op.equal t (.bool b) (.bool b')).run P w' = .ok (b == b') w' := fun w' => by
            exact eqb_run hu b b' 9999 w'
          cases op with
          | eql => exact ⟨_, _, h, mk_bool _, fun w' _ => by simp [eqGuard, binOp, he]⟩
          | neq => exact ⟨_, _, h, mk_bool _, fun w' _ => by simp [eqGuard, binOp, he]⟩
          | _ => simp at h
        | _ => simp at h
    | _ => simp [bin] at h
  | ints fl kk l =>
    cases y with
    | nil =>
      simp only [bin] at h
      cases ht : tget Γ t with
      | none => rw [ht] at h; simp at h
      | some ti =>
        rw [ht] at h
        have hti := hΓ t ti ht
        cases ti with
        | sl e ek =>
          have hu : P.underlying t = some (.slice e) := hti.1
          simp only [RepV, RepV0, Rep] at hx hy
          obtain ⟨A, c, e1, h1, _⟩ := hx
          obtain rfl : u = .slice A l.length c := by simpa using e1
          obtain rfl : v = .slice none 0 0 := by simpa using hy
          have he : ∀ w', (Op.equal t (.slice A l.length c) (.slice none 0 0)).run P w' = .ok A.isNone w' := fun w' => eqn_run hu A _ c 9999 w'
          cases op with
          | eql =>
            refine ⟨_, _, h A.isNone (fun hA => ?_), mk_bool _, fun w' _ => by simp [eqGuard, binOp, he]⟩
            cases A with
            | some _ => cases hA
            | none =>
              by_cases hl : l = []
              · exact hl
              · obtain ⟨b, off, h2, _⟩ := h1.row (by simpa using hl)
                cases h2
          | _ => simp at h
        | _ => simp at h
    | _ => simp [bin] at h
  | str l =>
    obtain ⟨xs, rfl, rfl⟩ := Rep1.str hx
    cases y with
    | str l' =>
      obtain ⟨ys, rfl, rfl⟩ := Rep1.str hy
      simp only [bin] at h
      cases op with
      | eql => exact ⟨_, _, h, mk_bool _, fun w' _ => by rw [← str_beq]; simp [eqGuard, binOp, Op.stringOp]⟩
      | neq => exact ⟨_, _, h, mk_bool _, fun w' _ => by rw [← str_beq]; simp [eqGuard, binOp, Op.stringOp]⟩
      | _ => simp at h
    | _ => simp [bin] at h
  | _ => simp [bin] at h
theorem un_ok {op : UnOp} {x : AV} {u : Value} (hx : RepV w S σ x u) (h : un op x k) :
    ∃ z q, k z ∧ RepV w S σ z q ∧ Gives P S σ s.h w (Op.unary op u) q := by
  cases x with
  | int kx m =>
    obtain ⟨rfl, hin⟩ := Rep1.int hx
    cases op with
    | neg => simp only [un] at h; exact ⟨_, _, h, mk_int (wrap_in _ _), fun w' _ => by simp [Op.unary, Op.intArith]⟩
    | _ => simp [un] at h
  | bool b =>
    have := Rep1.bool hx
    subst this
    cases op with
    | not => simp only [un] at h; exact ⟨_, _, h, mk_bool _, fun w' _ => by simp [Op.unary]⟩
    | _ => simp [un] at h
  | _ => cases op <;> simp [un] at h
theorem u8_nums {l : List Int} (h : ∀ m ∈ l, inK .u8 m = true) : ((strOfNums l).toList.map fun b => (b.toNat : Int)) = l := by
  rw [ByteArray.toList_eq, strOfNums_data, List.map_map]
  induction l with
  | nil => rfl
  | cons m l ih =>
    have hm := h m (List.mem_cons_self ..)
    have hm' : 0 ≤ m ∧ m ≤ 255 := by simpa [inK, IntKind.min, IntKind.max, IntKind.bits, IntKind.signed] using hm
    simp only [List.map_cons, Function.comp_apply, ih (fun x hx => h x (List.mem_cons_of_mem _ hx)), List.cons.injEq, and_true]
    simp
    omega
/-- A slice that holds the numbers l: its value, and its cells. -/
theorem listI_ok (hr : Rel n F0 w0 σ S s a w) {kk : IntKind} {x : AV} {l : List Int} {v : Value} (hx : RepV w S σ x v) (h : listI s kk x = some l) :
    ∃ A c, v = .slice A l.length c ∧ l.length ≤ c ∧ c ≤ maxLen ∧ (∀ m ∈ l, inK kk m = true) ∧ Row w (fun b => S b ∨ ∃ id e m, get s.h id = some e ∧ real e = true ∧ σ id = some m ∧ m.g = some b) A (l.map (Value.int kk)) := by
  cases x with
  | nil =>
    simp only [listI] at h
    cases h
    simp only [RepV, RepV0, Rep, List.cons.injEq, and_true] at hx
    subst hx
    exact ⟨none, 0, rfl, Nat.le_refl _, Nat.zero_le _, by simp, Row.nil⟩
  | ints f k' l' =>
    simp only [listI] at h
    cases hk : kbeq kk k' with
    | false => rw [hk] at h; cases h
    | true =>
      rw [hk] at h
      cases h
      have := kbeq_true hk
      subst this
      simp only [RepV, RepV0, Rep, List.cons.injEq, and_true] at hx
      obtain ⟨A, c, rfl, hs, _⟩ := hx
      exact ⟨A, c, rfl, hs.cap, hs.max, hs.rng, hs.row.weaken fun _ h => .inl h⟩
  | ownf id =>
    simp only [listI] at h
    cases he : get s.h id with
    | none => rw [he] at h; cases h
    | some e =>
      rw [he] at h
      cases e with
      | lini t k' l' =>
        simp only at h
        cases hk : kbeq kk k' with
        | false => rw [hk] at h; cases h
        | true =>
          rw [hk] at h
          cases h
          have := kbeq_true hk
          subst this
          simp only [RepV, RepV0, Rep, List.cons.injEq, and_true] at hx
          obtain ⟨m, hm, rfl⟩ := hx
          obtain ⟨m', hm', hen⟩ := hr.ents id _ he
          rw [hm] at hm'
          cases hm'
          have hrow := lini_row hen 0 l.length (by simp only [EntR] at hen; omega)
          simp only [List.drop_zero, List.take_length] at hrow
          simp only [EntR] at hen
          obtain ⟨e1, e2, e3, e4, e5, _⟩ := hen
          exact ⟨m.addr 0, m.cap, by rw [e2], by omega, e4, e5, hrow.weaken fun b hb => .inr ⟨id, _, m, he, rfl, hm, hb⟩⟩
      | _ => simp at h
  | own id off len =>
    simp only [listI] at h
    cases he : get s.h id with
    | none => rw [he] at h; cases h
    | some e =>
      rw [he] at h
      cases e with
      | lini t k' l' =>
        simp only at h
        cases hk : kbeq kk k' with
        | false => rw [hk] at h; cases h
        | true =>
          rw [hk] at h
          cases h
          have := kbeq_true hk
          subst this
          simp only [RepV, RepV0, Rep, List.cons.injEq, and_true] at hx
          obtain ⟨m, A, hm, rfl, hol, hA⟩ := hx
          obtain ⟨m', hm', hen⟩ := hr.ents id _ he
          rw [hm] at hm'
          cases hm'
          have hrow := lini_row hen off len hol
          simp only [EntR] at hen
          obtain ⟨e1, e2, e3, e4, e5, _⟩ := hen
          have hlen : ((l'.drop off).take len).length = len := by simp; omega
          refine ⟨A, m.cap - off, by rw [hlen], by omega, by omega, fun q hq => e5 q (List.mem_of_mem_drop (List.mem_of_mem_take hq)), fun hne => ?_⟩
          have h0 : 0 < len := by
            rcases Nat.eq_zero_or_pos len with h0 | h0
            · subst h0; simp at hne
            · exact h0
          rw [hA h0]
          exact (hrow.weaken fun b hb => .inr ⟨id, _, m, he, rfl, hm, hb⟩) hne
      | _ => simp at h
  | _ => simp [listI] at h
theorem agree_cell {h : Env} (ha : Agree S σ h w w') {b : Nat} (hb : S b ∨ ∃ id e m, get h id = some e ∧ real e = true ∧ σ id = some m ∧ m.g = some b) (o : Nat) : w'.cell? ⟨b, o, none⟩ = w.cell? ⟨b, o, none⟩ := by
  rcases hb with hb | ⟨id, e, m, h1, hre, h2, h3⟩
  · exact ha.cell hb o
  · have := ha.2 id e m b h1 hre h2 h3
    simp [World.cell?, this]
theorem conv_ok (hΓ : TOk P Γ) (hr : Rel n F0 w0 σ S s a w) {src dst : TypeId} {x : AV} {u : Value} (hx : RepV w S σ x u) (h : conv Γ s src dst x k) :
    ∃ z q, k z ∧ RepV w S σ z q ∧ Gives P S σ s.h w (convert src dst u) q := by
  unfold conv at h
  cases hs : tget Γ src with
  | none => rw [hs] at h; cases h
  | some ts =>
    have hts := hΓ src ts hs
    cases hd : tget Γ dst with
    | none => rw [hs, hd] at h; cases ts <;> simp at h
    | some td =>
      have htd := hΓ dst td hd
      rw [hs, hd] at h
      cases ts with
      | int ks =>
        cases td with
        | int kd =>
          cases x with
          | int kx m =>
            obtain ⟨rfl, _⟩ := Rep1.int hx
            simp only at h
            have hu : P.underlying dst = some (.int kd) := htd.1
            have hu' : P.underlying src = some (.int ks) := hts.1
            exact ⟨_, _, h, mk_int (wrap_in _ _), fun w' _ => by simp [convert, run_underlying hu, run_underlying hu', Conv.intToInt]⟩
          | _ => simp at h
        | _ => simp at h
      | sl e ek =>
        cases td with
        | str =>
          cases ek with
          | i ke =>
            cases ke with
            | u8 =>
              simp only at h
              cases hl : listI s .u8 x with
              | none => rw [hl] at h; cases h
              | some l =>
                rw [hl] at h
                obtain ⟨A, c, rfl, h1, h2, h3, h4⟩ := listI_ok hr hx hl
                obtain ⟨hu1, _, hu2, _⟩ := hts
                have hu3 : P.underlying dst = some .string := htd.1
                refine ⟨_, .string (strOfNums l), h, ?_, fun w' hw => ?_⟩
                · simp only [RepV, RepV0, Rep]
                  exact ⟨_, rfl, (u8_nums h3).symm⟩
                · by_cases hl0 : l = []
                  · subst hl0
                    cases A with
                    | none => exact run_convert_bytes_nil w' src e hu1 hu2 _ _ dst hu3
                    | some ad =>
                      rw [run_convert_bytes_string w' src dst e _ _ _ hu1 hu2 hu3]
                      exact run_bytesToString w' ad 0 c [] rfl
                  · obtain ⟨b, off, rfl, hb, hc⟩ := h4 (by simpa using hl0)
                    exact run_convert_bytes_arg (P := P) w' src e hu1 hu2 b off l.length c l rfl (fun i hi => by
                      rw [agree_cell hw hb, hc i (.int .u8 (l.getD i 0)) (by simp [hi])]) dst hu3
            | _ => simp at h
          | _ => simp at h
        | _ => cases ek <;> simp at h
      | _ => cases td <;> simp at h
theorem fld_ok (hΓ : TOk P Γ) {t : TypeId} {x : AV} {u : Value} {f : Nat} (hx : RepV w S σ x u) (h : fld Γ t x f k) :
    ∃ z q, k z ∧ RepV w S σ z q ∧ Gives P S σ s.h w (Instr.fieldAt t u f) q := by
  unfold fld at h
  cases ht : tget Γ t with
  | none => rw [ht] at h; cases h
  | some ti =>
    have hti := hΓ t ti ht
    rw [ht] at h
    cases ti with
    | st offs z =>
      simp only at h
      obtain ⟨fields, i, zv, hu, _, _, _, _, hlen, hf⟩ := hti
      cases ho : offs[f]? with
      | none => rw [ho] at h; cases h
      | some os =>
        obtain ⟨off, size⟩ := os
        rw [ho] at h
        obtain ⟨fd, j, hfd, hoff, hj, hjs, hnz⟩ := hf f off size ho
        have hrun : ∀ (w' : World) (b o : Nat), (Instr.fieldAt t (.pointer (some ⟨b, o, none⟩)) f).run P w' = .ok (.pointer (some ⟨b, o + off, none⟩)) w' := by
          intro w' b o
          simp [Instr.fieldAt, run_underlying hu, hfd, Instr.sureAddr, fieldPlace, sizeOf, typeInfo, hj, hjs, hnz, hoff, Addr.add_lit]
        cases x with
        | gpr T rc j =>
          simp only [RepV, RepV0, Rep, List.cons.injEq, and_true] at hx
          obtain ⟨b, o, vs, rfl, h1, h2, h3⟩ := hx
          refine ⟨_, .pointer (some ⟨b, o + (j + off), none⟩), h, ?_, fun w' _ => by rw [hrun, Nat.add_assoc]⟩
          simp only [RepV, RepV0, Rep]
          exact ⟨b, o, vs, rfl, h1, h2, h3⟩
        | ptr id i j =>
          simp only [RepV, RepV0, Rep, List.cons.injEq, and_true] at hx
          obtain ⟨m, g, hm, hg, rfl⟩ := hx
          refine ⟨_, .pointer (some ⟨g, i * m.es + (j + off), none⟩), h, ?_, fun w' _ => by rw [hrun, Nat.add_assoc]⟩
          simp only [RepV, RepV0, Rep]
          exact ⟨m, g, hm, hg, rfl⟩
        | _ => simp at h
    | _ => simp at h

theorem inB_of {i : Int} {m : Nat} (h : inB i m = true) : 0 ≤ i ∧ i < (m : Int) ∧ i.toNat < m := by
  simp only [inB, Bool.and_eq_true, decide_eq_true_eq] at h
  omega
theorem run_indexAt {t e : TypeId} {i : TypeInfo} (hu : P.underlying t = some (.slice e)) (hi : P.info? e = some i) {kk : IntKind} {m : Int} {A : Addr} {len c : Nat} (h0 : 0 ≤ m) (h1 : m < (len : Int)) (w' : World) :
    (Instr.indexAt t (.slice (some A) len c) (.int kk m)).run P w' = .ok (.pointer (some (A.add (m.toNat * i.size)))) w' := by
  simp [Instr.indexAt, asIntOf, run_underlying hu, h0, h1, sizeOf, typeInfo, hi]
theorem row_at {w : World} {S : Nat → Prop} {A : Option Addr} {xs : List Value} (h : Row w S A xs) {j : Nat} {v : Value} (hj : xs[j]? = some v) : ∃ b off, A = some ⟨b, off, none⟩ ∧ S b ∧ w.cell? ⟨b, off + j, none⟩ = some v := by
  obtain ⟨b, off, e, hb, hc⟩ := h (fun e => by simp [e] at hj)
  exact ⟨b, off, e, hb, hc j v hj⟩
/-- An element of a slice's type: its size in cells. -/
def EK.es (ek : EK) : Nat := ekEs ek
theorem ek_info {e : TypeId} {ek : EK} (h : EKok P e ek) : ∃ i, P.info? e = some i ∧ i.size = ek.es := by
  cases ek with
  | i k => obtain ⟨_, i, h1, h2, _⟩ := h; exact ⟨i, h1, h2⟩
  | r T => obtain ⟨i, z, h1, _, h2, _⟩ := h; exact ⟨i, h1, h2⟩
  | c => obtain ⟨i, z, h1, _, h2, _⟩ := h; exact ⟨i, h1, h2⟩
theorem entLen_ok {e : AV} {m : Mb} {q : Nat} (h : EntR w S σ e m) (hl : entLen e = some q) : q = m.n := by
  cases e with
  | lini t k l => simp only [entLen] at hl; cases hl; simp only [EntR] at h; omega
  | linr t T l => simp only [entLen] at hl; cases hl; simp only [EntR] at h; omega
  | box t l => simp only [entLen] at hl; cases hl; simp only [EntR] at h; obtain ⟨g, css, h1, h2, h3, _⟩ := h; omega
  | ints f k l => simp only [entLen] at hl; cases hl; simp only [EntR] at h; omega
  | rs f T l => simp only [entLen] at hl; cases hl; simp only [EntR] at h; omega
  | _ => simp [entLen] at hl
theorem entEs_ok {e : AV} {m : Mb} (h : EntR w S σ e m) : m.es = entEs e := by
  cases e with
  | lini t k l => simp only [EntR] at h; exact h.1
  | linr t T l => simp only [EntR] at h; exact h.1
  | box t l => simp only [EntR] at h; obtain ⟨g, css, h1, h2, h3, _⟩ := h; exact h2
  | ints f k l => simp only [EntR] at h; exact h.1
  | rs f T l => simp only [EntR] at h; exact h.1
  | _ => exact h.elim
theorem ent_cap {e : AV} {m : Mb} (h : EntR w S σ e m) : m.n ≤ m.cap ∧ m.cap ≤ maxLen := by
  cases e with
  | lini t k l => simp only [EntR] at h; exact ⟨h.2.2.1, h.2.2.2.1⟩
  | linr t T l => simp only [EntR] at h; exact ⟨h.2.2.1, h.2.2.2.1⟩
  | box t l => simp only [EntR] at h; obtain ⟨g, css, h1, h2, h3, h4, h5, _⟩ := h; omega
  | ints f k l => simp only [EntR] at h; exact ⟨h.2.2.1, h.2.2.2.1⟩
  | rs f T l => simp only [EntR] at h; exact ⟨h.2.2.1, h.2.2.2.1⟩
  | _ => exact h.elim
theorem ent_none {e : AV} {m : Mb} (h : EntR w S σ e m) (hg : m.g = none) : m.n = 0 := by
  cases e with
  | lini t k l => simp only [EntR] at h; have := h.2.2.2.2.2.1 hg; omega
  | linr t T l => simp only [EntR] at h; have := h.2.2.2.2.1 hg; omega
  | box t l => simp only [EntR] at h; obtain ⟨g, css, h1, _⟩ := h; rw [hg] at h1; cases h1
  | ints f k l => simp only [EntR] at h; have := h.2.2.2.2.2.1 hg; omega
  | rs f T l => simp only [EntR] at h; have := h.2.2.2.2.1 hg; omega
  | _ => exact h.elim
theorem idx_ok (hΓ : TOk P Γ) (hr : Rel n F0 w0 σ S s a w) {t : TypeId} {x y : AV} {u v : Value} (hx : RepV w S σ x u) (hy : RepV w S σ y v) (h : idx Γ s t x y k) :
    ∃ z q, k z ∧ RepV w S σ z q ∧ Gives P S σ s.h w (Instr.indexAt t u v) q := by
  unfold idx at h
  cases ht : tget Γ t with
  | none => rw [ht] at h; cases h
  | some ti =>
    have hti := hΓ t ti ht
    rw [ht] at h
    cases y with
    | int ky m =>
      obtain ⟨rfl, _⟩ := Rep1.int hy
      cases ti with
      | sl e ek =>
        obtain ⟨hu, _, hek⟩ := hti
        obtain ⟨i, hi, his⟩ := ek_info hek
        cases x with
        | ints f kk l =>
          simp only at h
          cases ek with
          | i ke =>
            simp only at h
            obtain ⟨hb, h⟩ := chk_some h
            obtain ⟨b0, b1, b2⟩ := inB_of hb
            simp only [RepV, RepV0, Rep, List.cons.injEq, and_true] at hx
            obtain ⟨A, c, rfl, hs, _⟩ := hx
            obtain ⟨b, off, rfl, hS, hc⟩ := row_at hs.row (j := m.toNat) (v := .int kk (l.getD m.toNat 0)) (by simp [b2])
            refine ⟨_, .pointer (some ⟨b, off + m.toNat, none⟩), h, ?_, fun w' _ => ?_⟩
            · simp only [RepV, RepV0, Rep]
              exact ⟨b, off + m.toNat, rfl, hS, hs.rng _ (by simp [b2]), hc⟩
            · rw [run_indexAt hu hi b0 b1, his, Addr.add_lit]
              simp [EK.es, ekEs]
          | _ => simp at h
        | rs f T l =>
          simp only at h
          cases ek with
          | r T' =>
            simp only at h
            cases hT : Nat.beq T T' with
            | false => rw [hT] at h; cases h
            | true =>
              have := beq_true hT
              subst this
              rw [hT] at h
              obtain ⟨hb, h⟩ := chk_some h
              obtain ⟨b0, b1, b2⟩ := inB_of hb
              simp only [RepV, RepV0, Rep, List.cons.injEq, and_true] at hx
              obtain ⟨A, c, css, rfl, hc1, hc2, hc3, hrr, hrow⟩ := hx
              obtain ⟨cs, hcs, hrec⟩ := hrr.at_ m.toNat b2
              have hne : css.flatten ≠ [] := by
                intro e0
                have hlen := hrec.len
                have hz : 0 < esz T := by cases T <;> simp [esz]
                have := flat_at (esz T) css hrr.es hcs (j := 0) (u := cs[0]'(by omega)) (by simp)
                simp [e0] at this
              obtain ⟨b, off, rfl, hS, hcell⟩ := hrow hne
              refine ⟨_, .pointer (some ⟨b, off + m.toNat * esz T + 0, none⟩), h, ?_, fun w' _ => ?_⟩
              · simp only [RepV, RepV0, Rep]
                refine ⟨b, off + m.toNat * esz T, cs, rfl, hS, hrec, fun j q hq => ?_⟩
                rw [Nat.add_assoc]
                exact hcell _ _ (flat_at (esz T) css hrr.es hcs hq)
              · rw [run_indexAt hu hi b0 b1, his, Addr.add_lit]
                rfl
          | _ => simp at h
        | ownf id =>
          simp only at h
          cases he : get s.h id with
          | none => rw [he] at h; cases h
          | some en =>
            rw [he] at h
            simp only at h
            cases hln : entLen en with
            | none => rw [hln] at h; cases h
            | some q =>
              rw [hln] at h
              simp only at h
              cases hes : Nat.beq (entEs en) ek.es with
              | false => rw [show Nat.beq (entEs en) (ekEs ek) = false from hes] at h; cases h
              | true =>
                rw [show Nat.beq (entEs en) (ekEs ek) = true from hes] at h
                obtain ⟨hb, h⟩ := chk_some h
                obtain ⟨b0, b1, b2⟩ := inB_of hb
                simp only [RepV, RepV0, Rep, List.cons.injEq, and_true] at hx
                obtain ⟨mb, hm, rfl⟩ := hx
                obtain ⟨mb', hm', hen⟩ := hr.ents id _ he
                rw [hm] at hm'
                cases hm'
                have hq := entLen_ok hen hln
                have hee := entEs_ok hen
                have hg : ∃ g, mb.g = some g := by
                  cases hg : mb.g with
                  | some g => exact ⟨g, rfl⟩
                  | none => have := ent_none hen hg; omega
                obtain ⟨g, hg⟩ := hg
                refine ⟨_, .pointer (some ⟨g, m.toNat * mb.es + 0, none⟩), h, ?_, fun w' _ => ?_⟩
                · simp only [RepV, RepV0, Rep]
                  exact ⟨mb, g, hm, hg, rfl⟩
                · simp only [Mb.addr, hg, Option.map_some]
                  rw [run_indexAt hu hi b0 (by omega), his, Addr.add_lit, hee, beq_true hes]
                  simp
        | own id off len =>
          simp only at h
          cases he : get s.h id with
          | none => rw [he] at h; cases h
          | some en =>
            rw [he] at h
            simp only at h
            cases hes : Nat.beq (entEs en) ek.es with
            | false => rw [show Nat.beq (entEs en) (ekEs ek) = false from hes] at h; cases h
            | true =>
              rw [show Nat.beq (entEs en) (ekEs ek) = true from hes] at h
              obtain ⟨hb, h⟩ := chk_some h
              obtain ⟨b0, b1, b2⟩ := inB_of hb
              simp only [RepV, RepV0, Rep, List.cons.injEq, and_true] at hx
              obtain ⟨mb, A, hm, rfl, hol, hA⟩ := hx
              obtain ⟨mb', hm', hen⟩ := hr.ents id _ he
              rw [hm] at hm'
              cases hm'
              have hee := entEs_ok hen
              have hg : ∃ g, mb.g = some g := by
                cases hg : mb.g with
                | some g => exact ⟨g, rfl⟩
                | none => have := ent_none hen hg; omega
              obtain ⟨g, hg⟩ := hg
              have hA' := hA (by omega)
              subst hA'
              refine ⟨_, .pointer (some ⟨g, (off + m.toNat) * mb.es + 0, none⟩), h, ?_, fun w' _ => ?_⟩
              · simp only [RepV, RepV0, Rep]
                exact ⟨mb, g, hm, hg, rfl⟩
              · simp only [Mb.addr, hg, Option.map_some]
                rw [run_indexAt hu hi b0 b1, his, Addr.add_lit, hee, beq_true hes, Nat.add_mul]
                simp
        | _ => simp at h
      | ar q z =>
        obtain ⟨e, i, j, zv, hu, _, _, _, _, hj, hjs⟩ := hti
        cases x with
        | ptr id i' j' =>
          simp only at h
          obtain ⟨hb, h⟩ := chk_some h
          obtain ⟨b0, b1, b2⟩ := inB_of hb
          simp only [RepV, RepV0, Rep, List.cons.injEq, and_true] at hx
          obtain ⟨mb, g, hm, hg, rfl⟩ := hx
          refine ⟨_, .pointer (some ⟨g, i' * mb.es + (j' + m.toNat), none⟩), h, ?_, fun w' _ => ?_⟩
          · simp only [RepV, RepV0, Rep]
            exact ⟨mb, g, hm, hg, rfl⟩
          · simp [Instr.indexAt, asIntOf, run_underlying hu, b0, b1, sizeOf, typeInfo, hj, hjs, Instr.sureAddr, Addr.add_lit, Nat.add_assoc]
        | _ => simp at h
      | _ => simp at h
    | _ => simp at h
end
end Go.Proofs.Ytnioiijcmdnhaaa.V
