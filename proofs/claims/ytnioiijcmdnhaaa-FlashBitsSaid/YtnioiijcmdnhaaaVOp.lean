/-
  Operations that leave memory as it is: what the evaluator gives holds of the model. Plain theorems; no function of the program is named here.
-/
import Derived.Test.YtnioiijcmdnhaaaVRel
set_option linter.all false
namespace Go.Proofs.Ytnioiijcmdnhaaa.V
open Go Go.RowKit

/-! ### types -/
def oneInfo (P : Program) (t : TypeId) (z : Value) : Prop := ∃ i, P.info? t = some i ∧ i.size = 1 ∧ i.zero = some z
def EKok (P : Program) (e : TypeId) : EK → Prop
  | .i k => P.underlying e = some (.int k) ∧ ∃ i, P.info? e = some i ∧ i.size = 1 ∧ i.zero = some (.int k 0) ∧ i.bytes ≤ 128
  | .r T => ∃ i z, P.info? e = some i ∧ i.zero = some z ∧ i.size = esz T ∧ z.cells.size = esz T ∧ i.bytes ≤ 128
  | .c => ∃ i z, P.info? e = some i ∧ i.zero = some z ∧ i.size = 1 ∧ z.cells.size = 1 ∧ i.bytes ≤ 128
def TIok (P : Program) (t : TypeId) : TI → Prop
  | .int k => P.underlying t = some (.int k) ∧ oneInfo P t (.int k 0)
  | .bool => P.underlying t = some .bool ∧ oneInfo P t (.bool false)
  | .str => P.underlying t = some .string ∧ oneInfo P t (.string .empty)
  | .ptr => ∃ e i, P.underlying t = some (.pointer e) ∧ P.info? t = some i ∧ i.size = 1
  | .sl e ek => P.underlying t = some (.slice e) ∧ oneInfo P t (.slice none 0 0) ∧ EKok P e ek
  | .st offs z => ∃ (fields : Array Field) (i : TypeInfo) (zv : List Value), P.underlying t = some (.struct fields) ∧ P.info? t = some i ∧ i.size = cnt z ∧ i.zero = some (.agg zv.toArray) ∧
      (∀ w S σ, RepL w S σ z (zv.map ([·]))) ∧ fields.toList.mapM (fun f => (P.info? f.type).map fun i => (f.offset, i.size)) = some offs ∧
      ∀ (f off size : Nat), offs[f]? = some (off, size) → ∃ fd j, fields[f]? = some fd ∧ fd.offset = off ∧ P.info? fd.type = some j ∧ j.size = size ∧ size ≠ 0
  | .ar n z => ∃ (e : TypeId) (i j : TypeInfo) (zv : List Value), P.underlying t = some (.array n e) ∧ P.info? t = some i ∧ i.size = cnt z ∧ i.zero = some (.agg zv.toArray) ∧
      (∀ w S σ, RepL w S σ z (zv.map ([·]))) ∧ P.info? e = some j ∧ j.size = 1
def TOk (P : Program) (Γ : TEnv) : Prop := ∀ t ti, tget Γ t = some ti → TIok P t ti

theorem wrap_in (k : IntKind) (n : Int) : inK k (k.wrap n) = true := by
  simp only [inK, Bool.and_eq_true, decide_eq_true_eq]
  cases k <;> simp only [IntKind.wrap, IntKind.min, IntKind.max, IntKind.bits, IntKind.signed] <;> simp <;> (try split) <;> omega
theorem inK_i64 {n : Int} : inK .i64 n = true ↔ -9223372036854775808 ≤ n ∧ n ≤ 9223372036854775807 := by
  simp [inK, IntKind.min, IntKind.max, IntKind.bits, IntKind.signed]
theorem len_in {n : Nat} (h : n ≤ maxLen) : inK .i64 (n : Int) = true := by
  rw [inK_i64]
  unfold maxLen at h
  omega
theorem fdiv_in {k : IntKind} {x : Int} (m : Nat) (h : inK k x = true) : inK k (x.fdiv (2 ^ m)) = true := by
  simp only [inK, Bool.and_eq_true, decide_eq_true_eq] at h ⊢
  have hp : (0 : Int) < 2 ^ m := Int.pow_pos (by omega)
  have h1 : x.fdiv (2 ^ m) = x / (2 ^ m) := Int.fdiv_eq_ediv_of_nonneg _ (by omega)
  rw [h1]
  have hmin : k.min ≤ 0 := by cases k <;> simp [IntKind.min, IntKind.bits, IntKind.signed]
  have hmax : 0 ≤ k.max := by cases k <;> simp [IntKind.max, IntKind.bits, IntKind.signed]
  rcases Int.lt_or_le x 0 with hx | hx
  · have h3 : x ≤ x / 2 ^ m := by
      apply Int.le_ediv_of_mul_le hp
      have : x * 2 ^ m ≤ x * 1 := Int.mul_le_mul_of_nonpos_left (by omega) (by omega)
      omega
    have h4 : x / 2 ^ m < 0 := Int.ediv_neg_of_neg_of_pos hx hp
    omega
  · have h3 : x / 2 ^ m ≤ x := Int.ediv_le_self _ hx
    have h4 : 0 ≤ x / 2 ^ m := Int.ediv_nonneg hx (by omega)
    omega
theorem tmod_in {k : IntKind} {x : Int} (y : Int) (h : inK k x = true) : inK k (x.tmod y) = true := by
  simp only [inK, Bool.and_eq_true, decide_eq_true_eq] at h ⊢
  have hmin : k.min ≤ 0 := by cases k <;> simp [IntKind.min, IntKind.bits, IntKind.signed]
  have hmax : 0 ≤ k.max := by cases k <;> simp [IntKind.max, IntKind.bits, IntKind.signed]
  rcases Int.lt_or_le x 0 with hx | hx
  · have h1 : (-x).tmod y = -(x.tmod y) := Int.neg_tmod ..
    have h2 : 0 ≤ (-x).tmod y := Int.tmod_nonneg _ (by omega)
    have h3 : (-x).tmod y ≤ -x := by
      have := Int.natAbs_tmod (-x) y
      have h5 := Nat.mod_le (-x).natAbs y.natAbs
      omega
    omega
  · have h2 : 0 ≤ x.tmod y := Int.tmod_nonneg _ hx
    have h3 : x.tmod y ≤ x := by
      have := Int.natAbs_tmod x y
      have h5 := Nat.mod_le x.natAbs y.natAbs
      omega
    omega

/-! ### operands and cells -/
section
variable {P : Program} {Γ : TEnv} {n : Nat} {F0 : Fx} {w0 w w' : World} {σ : Sg} {S : Nat → Prop} {s : AS} {a : Act}
theorem cav_ok {v : Value} {x : AV} (h : cav v = some x) : RepV w S σ x v := by
  cases v with
  | bool b => simp only [cav] at h; cases h; simp [RepV, RepV0, Rep]
  | int k m =>
    simp only [cav] at h
    cases hi : inK k m with
    | true => rw [hi] at h; cases h; simp [RepV, RepV0, Rep, hi]
    | false => rw [hi] at h; cases h
  | slice A l c =>
    cases A with
    | some _ => simp [cav] at h
    | none =>
      cases l with
      | succ _ => simp [cav] at h
      | zero =>
        cases c with
        | succ _ => simp [cav] at h
        | zero => simp only [cav] at h; cases h; simp [RepV, RepV0, Rep]
  | pointer a =>
    cases a with
    | some _ => simp [cav] at h
    | none => simp only [cav] at h; cases h; simp [RepV, RepV0, Rep, Value.oneCell']
  | string s => simp only [cav] at h; cases h; simp [RepV, RepV0, Rep, ByteArray.toList_eq]
  | _ => simp [cav] at h
theorem aval_ok (hr : Rel n F0 w0 σ S s a w) {x : Operand} {y : AV} (h : aval s x = some y) : RepV w S σ y (a.eval x) := by
  cases x with
  | tmp t => exact hr.tmps h
  | const v => exact cav_ok h
  | func f => simp only [aval] at h; cases h; simp [RepV, RepV0, Rep, FnRep, Act.eval]
  | _ => simp [aval] at h
/-- The worlds in which what the evaluator may read is as in w. -/
def Agree (S : Nat → Prop) (σ : Sg) (h : Env) (w w' : World) : Prop :=
  (∀ b, S b → w'.heap[b]? = w.heap[b]?) ∧ ∀ id e m g, get h id = some e → real e = true → σ id = some m → m.g = some g → w'.heap[g]? = w.heap[g]?
theorem Agree.refl (S : Nat → Prop) (σ : Sg) (h : Env) (w : World) : Agree S σ h w w := ⟨fun _ _ => rfl, fun _ _ _ _ _ _ _ _ => rfl⟩
theorem Agree.cell {h : Env} (ha : Agree S σ h w w') {b : Nat} (hb : S b) (o : Nat) : w'.cell? ⟨b, o, none⟩ = w.cell? ⟨b, o, none⟩ := by simp [World.cell?, ha.1 b hb]
theorem Agree.blk {h : Env} (ha : Agree S σ h w w') {id : Nat} {e : AV} {m : Mb} {g : Nat} (h1 : get h id = some e) (hre : real e = true) (h2 : σ id = some m) (h3 : m.g = some g) {t : TypeId} {cs : Array Value} (hb : Blk w g t cs) : Blk w' g t cs := by
  unfold Blk at *
  rw [ha.2 id e m g h1 hre h2 h3]
  exact hb

theorem notAgg {t : TypeId} {ti : TI} (h : TIok P t ti) (ha : ti.agg = false) : ∃ d, P.underlying t = some d ∧ (match d with | .struct _ | .array _ _ => true | _ => false) = false := by
  cases ti with
  | int k => exact ⟨_, h.1, rfl⟩
  | bool => exact ⟨_, h.1, rfl⟩
  | str => exact ⟨_, h.1, rfl⟩
  | ptr => obtain ⟨e, i, h1, _⟩ := h; exact ⟨_, h1, rfl⟩
  | sl e ek => exact ⟨_, h.1, rfl⟩
  | st o z => simp [TI.agg] at ha
  | ar m z => simp [TI.agg] at ha
theorem isAggT {t : TypeId} {ti : TI} (h : TIok P t ti) (ha : ti.agg = true) : IsAgg P t ti.size := by
  cases ti with
  | st o z => obtain ⟨f, i, zv, h1, h2, h3, _⟩ := h; exact ⟨_, h1, rfl, by simp [h2, h3, TI.size]⟩
  | ar m z => obtain ⟨e, i, j, zv, h1, h2, h3, _⟩ := h; exact ⟨_, h1, rfl, by simp [h2, h3, TI.size]⟩
  | _ => simp [TI.agg] at ha
theorem sizeT {t : TypeId} {ti : TI} (h : TIok P t ti) : (P.info? t).map (·.size) = some ti.size := by
  cases ti with
  | int k => obtain ⟨_, i, h1, h2, _⟩ := h; simp [h1, h2, TI.size]
  | bool => obtain ⟨_, i, h1, h2, _⟩ := h; simp [h1, h2, TI.size]
  | str => obtain ⟨_, i, h1, h2, _⟩ := h; simp [h1, h2, TI.size]
  | ptr => obtain ⟨e, i, _, h1, h2⟩ := h; simp [h1, h2, TI.size]
  | sl e ek => obtain ⟨_, ⟨i, h1, h2, _⟩, _⟩ := h; simp [h1, h2, TI.size]
  | st o z => obtain ⟨f, i, zv, h1, h2, h3, _⟩ := h; simp [h2, h3, TI.size]
  | ar m z => obtain ⟨e, i, j, zv, h1, h2, h3, _⟩ := h; simp [h2, h3, TI.size]
theorem run_load1 {t : TypeId} {ti : TI} (h : TIok P t ti) (ha : ti.agg = false) {x : Addr} {v : Value} (hc : w.cell? x = some v) : (loadVar t x).run P w = .ok v w := by
  obtain ⟨d, hu, hd⟩ := notAgg h ha
  have hagg : (isAgg t).run P w = .ok false w := by
    simp only [isAgg, Sem.run_bind, run_underlying hu, Result.andThen_ok]
    cases d <;> first | rfl | cases hd
  simp [loadVar, hagg, hc]
theorem run_loadA {t : TypeId} {ti : TI} (h : TIok P t ti) (ha : ti.agg = true) {b off : Nat} {cs : List Value} (hl : cs.length = ti.size) (hc : ∀ j v, cs[j]? = some v → w.cell? ⟨b, off + j, none⟩ = some v) :
    (loadVar t ⟨b, off, none⟩).run P w = .ok (.agg cs.toArray) w := by
  obtain ⟨d, hu, hd, hs⟩ := isAggT h ha
  have hagg : (isAgg t).run P w = .ok true w := by
    simp only [isAgg, Sem.run_bind, run_underlying hu, Result.andThen_ok]
    cases d <;> first | rfl | cases hd
  have hlc : (loadCells ⟨b, off, none⟩ cs.length).run P w = .ok cs.toArray w :=
    run_loadCells_list (P := P) w ⟨b, off, none⟩ cs (fun j v hv => by rw [Addr.add_lit]; exact hc j v hv)
  cases hq : P.info? t with
  | none => simp [hq] at hs
  | some i =>
    have hs' : i.size = cs.length := by simp [hq] at hs; omega
    simp [loadVar, hagg, sizeOf, typeInfo, hq, hs', hlc]

/-- The cells of a list of one-cell values. -/
theorem RepL.nth : ∀ {l : List AV} {vs : List Value} (j : Nat) {x : AV}, RepL w S σ l (vs.map ([·])) → V.nth l j = some x → ∃ v, vs[j]? = some v ∧ Rep w S σ x [v]
  | [], _, _, _, _, h => by simp [V.nth] at h
  | y :: l, vs, j, x, hr, h => by
    simp only [RepL] at hr
    obtain ⟨cs, css', e, h1, h2⟩ := hr
    cases vs with
    | nil => simp at e
    | cons v vs =>
      simp only [List.map_cons, List.cons.injEq] at e
      obtain ⟨rfl, rfl⟩ := e
      cases j with
      | zero => simp only [V.nth] at h; cases h; exact ⟨v, rfl, h1⟩
      | succ j =>
        simp only [V.nth] at h
        obtain ⟨u, hu, hr⟩ := RepL.nth j h2 h
        exact ⟨u, by simpa using hu, hr⟩
theorem RepL.length : ∀ {l : List AV} {css : List (List Value)}, RepL w S σ l css → css.length = cnt l
  | [], css, h => by simp only [RepL] at h; subst h; rfl
  | x :: l, css, h => by
    simp only [RepL] at h
    obtain ⟨cs, css', rfl, _, h2⟩ := h
    simp [cnt, RepL.length h2]
theorem RepL.drop : ∀ (j : Nat) {l : List AV} {css : List (List Value)}, RepL w S σ l css → RepL w S σ (dropV l j) (css.drop j)
  | 0, l, css, h => by cases l <;> simpa [dropV] using h
  | j + 1, [], css, h => by simp only [RepL] at h; subst h; simp [dropV, RepL]
  | j + 1, x :: l, css, h => by
    simp only [RepL] at h
    obtain ⟨cs, css', rfl, _, h2⟩ := h
    simpa [dropV] using RepL.drop j h2
theorem RepL.take : ∀ (j : Nat) {l : List AV} {css : List (List Value)}, RepL w S σ l css → RepL w S σ (takeV l j) (css.take j)
  | 0, l, css, h => by cases l <;> simp [takeV, RepL]
  | j + 1, [], css, h => by simp only [RepL] at h; subst h; simp [takeV, RepL]
  | j + 1, x :: l, css, h => by
    simp only [RepL] at h
    obtain ⟨cs, css', rfl, h1, h2⟩ := h
    simp only [takeV, List.take_succ_cons, RepL]
    exact ⟨cs, css'.take j, rfl, h1, RepL.take j h2⟩
theorem singles : ∀ {css : List (List Value)}, (∀ cs ∈ css, cs.length = 1) → css = css.flatten.map ([·])
  | [], _ => rfl
  | cs :: css, h => by
    have h1 := h cs (List.mem_cons_self ..)
    match cs, h1 with
    | [v], _ =>
      simp only [List.flatten_cons, List.singleton_append, List.map_cons]
      rw [← singles (fun c hc => h c (List.mem_cons_of_mem _ hc))]
theorem flat_singles (vs : List Value) : (vs.map ([·])).flatten = vs := by
  induction vs with
  | nil => rfl
  | cons v vs ih => simp [ih]
theorem RepV_of_Rep {x : AV} {v : Value} (h : Rep w S σ x [v]) (hx : ∀ l, x ≠ .agg l) : RepV w S σ x v := by
  cases x with
  | agg l => exact absurd rfl (hx l)
  | tup l => simp only [Rep] at h
  | undef => simp only [Rep] at h
  | _ => exact h
theorem loadOf_ok {t : TypeId} {ti : TI} (ht : TIok P t ti) {cs : List AV} {vs : List Value} (hr : RepL w S σ cs (vs.map ([·]))) {j : Nat} {k : AV → Prop}
    (h : loadOf ti cs j k) {b off : Nat} (hc : ∀ i u, vs[i]? = some u → w.cell? ⟨b, off + i, none⟩ = some u) :
    ∃ x v, k x ∧ RepV w S σ x v ∧ ∀ w', (∀ o, w'.cell? ⟨b, o, none⟩ = w.cell? ⟨b, o, none⟩) → (loadVar t ⟨b, off + j, none⟩).run P w' = .ok v w' := by
  unfold loadOf at h
  cases ha : ti.agg with
  | false =>
    rw [ha] at h
    simp only at h
    cases hn : V.nth cs j with
    | none => rw [hn] at h; cases h
    | some x =>
      rw [hn] at h
      obtain ⟨v, hv, hrx⟩ := RepL.nth j hr hn
      have hx : ∀ l, x ≠ .agg l := by
        intro l e
        subst e
        simp [isCell] at h
      have hc1 : isCell x = true := by cases x <;> first | rfl | exact absurd rfl (hx _)
      simp only [hc1] at h
      exact ⟨x, v, h, RepV_of_Rep hrx hx, fun w' hw => run_load1 ht ha (by rw [hw]; exact hc j v hv)⟩
  | true =>
    rw [ha] at h
    simp only at h
    cases hb : Nat.ble (j + ti.size) (cnt cs) with
    | false => rw [hb] at h; cases h
    | true =>
      rw [hb] at h
      have hle : j + ti.size ≤ cnt cs := Nat.le_of_ble_eq_true hb
      have hl := RepL.length hr
      simp at hl
      have h2 := RepL.take ti.size (RepL.drop j hr)
      rw [← List.map_drop, ← List.map_take] at h2
      refine ⟨_, .agg ((vs.drop j).take ti.size).toArray, h, ?_, fun w' hw => ?_⟩
      · simp only [RepV, RepV0]
        exact ⟨_, rfl, by simp only [Rep]; exact ⟨_, h2, (flat_singles _).symm⟩⟩
      · refine run_loadA ht ha (by simp; omega) (fun i v hv => ?_)
        rw [List.getElem?_take] at hv
        split at hv
        · rw [List.getElem?_drop] at hv
          rw [hw, Nat.add_assoc]
          exact hc _ v hv
        · cases hv
/-- The cells of an element. -/
theorem rec_cells {T : Nat} {r : Rec} {vs : List Value} (h : RecRep w S T r vs) : RepL w S σ (cellsOf (enc T r)) (vs.map ([·])) := by
  cases T with
  | zero =>
    obtain ⟨A, c, rfl, h1, h2, h3, h4, h5⟩ := h
    simp only [enc, cellsOf, RepL, List.map_cons, List.map_nil]
    exact ⟨_, _, rfl, by simp [Rep, h1], _, _, rfl, by simp [Rep], _, _, rfl, by simp [Rep, h2], _, _, rfl, by simp [Rep, h3], _, _, rfl, by simp [Rep, h4], _, _, rfl, by simp only [Rep]; exact ⟨A, c, rfl, h5, by simp⟩, rfl⟩
  | succ T =>
    obtain ⟨A, c, rfl, h5⟩ := h
    simp only [enc, cellsOf, RepL, List.map_cons, List.map_nil]
    exact ⟨_, _, rfl, by simp only [Rep]; exact ⟨A, c, rfl, h5, by simp⟩, rfl⟩

/-! ### the operations, one by one -/
/-- Whatever the world (as far as it agrees): the operation's program gives v. -/
def Gives (P : Program) (S : Nat → Prop) (σ : Sg) (h : Env) (w : World) (m : Sem Value) (v : Value) : Prop := ∀ w', Agree S σ h w w' → m.run P w' = .ok v w'
theorem chk_some {c : Bool} {x : Prop} (h : chk c x) : c = true ∧ x := by
  cases c with
  | true => exact ⟨rfl, h⟩
  | false => exact h.elim
theorem Rep1.int {k : IntKind} {m : Int} {v : Value} (h : RepV w S σ (.int k m) v) : v = .int k m ∧ inK k m = true := by
  simp only [RepV, RepV0, Rep, List.cons.injEq, and_true] at h
  exact h
theorem Rep1.bool {b : Bool} {v : Value} (h : RepV w S σ (.bool b) v) : v = .bool b := by
  simpa only [RepV, RepV0, Rep, List.cons.injEq, and_true] using h
theorem Rep1.str {l : List Int} {v : Value} (h : RepV w S σ (.str l) v) : ∃ x : ByteArray, v = .string x ∧ l = x.toList.map fun b => (b.toNat : Int) := by
  simpa only [RepV, RepV0, Rep, List.cons.injEq, and_true] using h
theorem mk_int {k : IntKind} {m : Int} (h : inK k m = true) : RepV w S σ (.int k m) (.int k m) := by simp [RepV, RepV0, Rep, h]
theorem mk_bool (b : Bool) : RepV w S σ (.bool b) (.bool b) := by simp [RepV, RepV0, Rep]

section
variable {k : AV → Prop}
theorem load_ok (hΓ : TOk P Γ) (hr : Rel n F0 w0 σ S s a w) {t : TypeId} {x : AV} {v : Value} (hx : RepV w S σ x v) (h : load Γ s t x k) :
    ∃ y u, k y ∧ RepV w S σ y u ∧ Gives P S σ s.h w (Instr.loadAt t v) u := by
  unfold load at h
  cases ht : tget Γ t with
  | none => rw [ht] at h; cases h
  | some ti =>
    have hti := hΓ t ti ht
    rw [ht] at h
    simp only at h
    cases x with
    | gpi kk m =>
      simp only [RepV, RepV0, Rep] at hx
      obtain ⟨b, off, e, hb, hin, hc⟩ := hx
      simp only [List.cons.injEq, and_true] at e
      subst e
      simp only at h
      cases ha : ti.agg with
      | true => rw [ha] at h; cases h
      | false =>
        rw [ha] at h
        refine ⟨_, _, h, mk_int hin, fun w' hw => ?_⟩
        simp only [Instr.loadAt, Instr.sureAddr, Sem.run_bind, Sem.run_pure, Result.andThen_ok]
        exact run_load1 hti ha (by rw [hw.cell hb]; exact hc)
    | gpr T rc j =>
      simp only [RepV, RepV0, Rep] at hx
      obtain ⟨b, off, vs, e, hb, hrc, hc⟩ := hx
      simp only [List.cons.injEq, and_true] at e
      subst e
      simp only at h
      obtain ⟨y, u, h1, h2, h3⟩ := loadOf_ok hti (rec_cells (σ := σ) hrc) h hc
      refine ⟨y, u, h1, h2, fun w' hw => ?_⟩
      simp only [Instr.loadAt, Instr.sureAddr, Sem.run_bind, Sem.run_pure, Result.andThen_ok]
      exact h3 w' (fun o => hw.cell hb o)
    | ptr id i j =>
      simp only [RepV, RepV0, Rep] at hx
      obtain ⟨m, g, hm, hg, e⟩ := hx
      simp only [List.cons.injEq, and_true] at e
      subst e
      simp only at h
      cases he : get s.h id with
      | none => rw [he] at h; cases h
      | some en =>
        obtain ⟨m', hm', hen⟩ := hr.ents id en he
        rw [hm] at hm'
        cases hm'
        rw [he] at h
        have hag : real en = true → ∀ w', Agree S σ s.h w w' → ∀ o, w'.cell? ⟨g, o, none⟩ = w.cell? ⟨g, o, none⟩ := fun hre w' hw o => by
          have := hw.2 id en m g he hre hm hg
          simp [World.cell?, this]
        cases en with
        | box t' l =>
          simp only at h
          simp only [EntR] at hen
          obtain ⟨g', css, e1, e2, e3, e4, e5, e6, e7, e8⟩ := hen
          rw [hg] at e1
          cases e1
          have e6' := e6
          rw [singles e7] at e6'
          obtain ⟨y, u, h1, h2, h3⟩ := loadOf_ok hti e6' h (b := g) (off := 0) (fun i u hu => by rw [e8.cell]; simpa using hu)
          refine ⟨y, u, h1, h2, fun w' hw => ?_⟩
          simp only [Instr.loadAt, Instr.sureAddr, Sem.run_bind, Sem.run_pure, Result.andThen_ok]
          have := h3 w' (hag rfl w' hw)
          rw [e2, Nat.mul_one]
          simpa using this
        | lini t' kk l =>
          simp only at h
          cases hj : Nat.beq j 0 with
          | false => rw [hj] at h; simp at h
          | true =>
            have := beq_true hj
            subst this
            cases ha : ti.agg with
            | true => rw [hj, ha] at h; simp at h
            | false =>
              rw [hj, ha] at h
              simp only at h
              obtain ⟨hlt, h⟩ := chk_some h
              have hlt' : i < l.length := by simpa using hlt
              have hrow := lini_row hen i 1 (by simp only [EntR] at hen; omega)
              simp only [EntR] at hen
              obtain ⟨e1, e2, e3, e4, e5, e6, e7⟩ := hen
              have hget : l.getD i 0 = l[i] := by simp [hlt']
              have hl1 : (l.drop i).take 1 = [l[i]] := by rw [List.drop_eq_getElem_cons hlt']; rfl
              rw [hl1] at hrow
              obtain ⟨b, off, hA, hb, hcc⟩ := hrow (by simp)
              rw [hg] at hb
              cases hb
              simp only [Mb.addr, hg, Option.map_some, Option.some.injEq, Addr.mk.injEq, and_true, true_and] at hA
              have hc := hcc 0 _ rfl
              refine ⟨_, _, h, mk_int (by rw [hget]; exact e5 _ (List.getElem_mem hlt')), fun w' hw => ?_⟩
              simp only [Instr.loadAt, Instr.sureAddr, Sem.run_bind, Sem.run_pure, Result.andThen_ok]
              refine run_load1 hti ha ?_
              rw [hag rfl w' hw, hget, hA]
              exact hc
        | linr t' T l =>
          simp only at h
          obtain ⟨hlt, h⟩ := chk_some h
          have hlt' : i < l.length := by simpa using hlt
          simp only [EntR] at hen
          obtain ⟨e1, e2, e3, e4, e6, e7⟩ := hen
          obtain ⟨cur, css, hb, hcz, hrr, htk⟩ := e7 g hg
          obtain ⟨cs, hcs, hrec⟩ := hrr.at_ i hlt'
          obtain ⟨y, u, h1, h2, h3⟩ := loadOf_ok hti (rec_cells (σ := σ) hrec) h (b := g) (off := i * m.es) (fun q u hu => by
            rw [hb.cell, e1]
            have h5 := flat_at (esz T) css hrr.es hcs hu
            rw [← htk, List.getElem?_take] at h5
            split at h5
            · simpa using h5
            · cases h5)
          refine ⟨y, u, h1, h2, fun w' hw => ?_⟩
          simp only [Instr.loadAt, Instr.sureAddr, Sem.run_bind, Sem.run_pure, Result.andThen_ok]
          exact h3 w' (hag rfl w' hw)
        | _ => simp at h
    | _ => simp at h
end
end
end Go.Proofs.Ytnioiijcmdnhaaa.V
