/-
  Loops by rounds, and the check of the table of types. Plain theorems; no function of the program is named here.
-/
import Derived.Test.YtnioiijcmdnhaaaVFun
set_option linter.all false
namespace Go.Proofs.Ytnioiijcmdnhaaa.V
open Go Go.RowKit

/-- What is kept of a state where a loop is left: slots and names, by 'exit' and by 'return'. -/
inductive Trim where
  | all
  | some (te he tr hr : List Nat)
def Trim.ex : Trim → AS → AS
  | .all, s => s
  | .some te he _ _, s => ⟨only te s.t, only he s.h⟩
def Trim.rt : Trim → AS → AS
  | .all, s => s
  | .some _ _ tr hr, s => ⟨only tr s.t, only hr s.h⟩
/-- One round of a loop, from head to head. -/
def stepL (c : Cfg) (kps : List (Loc × Keep)) (tr : Trim) (body : Code) (s : AS) (k : Out → AS → Prop) : Prop :=
  exec c body s (fun o s1 => match o with
    | .normal => norm kps s1 (fun s2 => k .normal s2)
    | .exit id => k (.exit id) (tr.ex s1)
    | .ret => k .ret (tr.rt s1))
def iterL (step : AS → (Out → AS → Prop) → Prop) (k : Out → AS → Prop) : Nat → AS → Prop
  | 0, _ => False
  | f + 1, s => step s (fun o s' => match o with
    | .normal => iterL step k f s'
    | .exit id => k (.exit id) s'
    | .ret => k .ret s')
section
variable {P : Program} {c : Cfg}
theorem Rel.ex {n : Nat} {F0 : Fx} {w0 w : World} {σ : Sg} {S : Nat → Prop} {s : AS} {a : Act} (h : Rel n F0 w0 σ S s a w) (tr : Trim) : Rel n F0 w0 σ S (tr.ex s) a w := by
  cases tr with
  | all => exact h
  | some te he tr hr => exact h.less (fun t x hx => get_only hx) (fun t x hx => get_only hx)
theorem Rel.rt {n : Nat} {F0 : Fx} {w0 w : World} {σ : Sg} {S : Nat → Prop} {s : AS} {a : Act} (h : Rel n F0 w0 σ S s a w) (tr : Trim) : Rel n F0 w0 σ S (tr.rt s) a w := by
  cases tr with
  | all => exact h
  | some te he tr hr => exact h.less (fun t x hx => get_only hx) (fun t x hx => get_only hx)
theorem loop_ok (hc : COk P c) (hmx : P.follows .mixedOrders = true) {body : Code} (hp : plOk c body = true) (hL : ∀ b ∈ loopsOf body, ∀ s k, c.L (keyOf b) s k → Tri P c.n (.loop b) s k) {kps : List (Loc × Keep)} {tr : Trim} {k : Out → AS → Prop} :
    ∀ (f : Nat) {s : AS}, iterL (stepL c kps tr body) k f s → Tri P c.n (.loop body) s k := by
  intro f s h F0 w0 σ S a w Q hr hQ
  refine wp_loop_rounds f ?_
  induction f generalizing s σ S a w with
  | zero => exact h.elim
  | succ f ih =>
    simp only [iterL] at h
    rw [rounds_succ]
    unfold stepL at h
    refine exec_ok hc hmx body hp hL hr h ?_
    intro o2 s2 a' w' σ' S' h1 h2
    cases o2 with
    | normal =>
      simp only at h1
      obtain ⟨s3, σ3, S3, g1, g2⟩ := norm_ok h2 h1
      exact ih g1 _ _ _ _ g2
    | exit id => exact hQ (.exit id) _ a' w' σ' S' h1 (h2.ex tr)
    | ret => exact hQ .ret _ a' w' σ' S' h1 (h2.rt tr)
end

/-! ### the table of types -/
def zeroB : AV → Value → Bool
  | .int k n, .int k' n' => kbeq k k' && n == 0 && n' == 0
  | .bool b, .bool b' => !b && !b'
  | .nil, .slice none 0 0 => true
  | .str [], .string s => s.size == 0
  | _, _ => false
def zerosB : List AV → List Value → Bool
  | [], [] => true
  | x :: l, v :: vs => zeroB x v && zerosB l vs
  | _, _ => false
theorem zeroB_of {x : AV} {v : Value} (h : zeroB x v = true) : ∀ w S σ, Rep w S σ x [v] := by
  intro w S σ
  unfold zeroB at h
  split at h
  · simp only [Bool.and_eq_true, beq_iff_eq] at h
    obtain ⟨⟨h1, rfl⟩, rfl⟩ := h
    have := kbeq_true h1
    subst this
    rename_i k
    unfold Rep
    exact ⟨rfl, by cases k <;> rfl⟩
  · simp only [Bool.and_eq_true, Bool.not_eq_true'] at h
    obtain ⟨rfl, rfl⟩ := h
    simp only [Rep]
  · simp only [Rep]
  · rename_i s
    simp only [Rep]
    refine ⟨s, rfl, ?_⟩
    have h0 : s.size = 0 := by simpa using h
    rw [ByteArray.toList_eq]
    have : s.data.toList = [] := List.eq_nil_of_length_eq_zero (by rw [Array.length_toList]; exact h0)
    rw [this]
    rfl
  · cases h
theorem zerosB_of : ∀ {l : List AV} {vs : List Value}, zerosB l vs = true → ∀ w S σ, RepL w S σ l (vs.map ([·]))
  | [], [], _, w, S, σ => rfl
  | x :: l, v :: vs, h, w, S, σ => by
    simp only [zerosB, Bool.and_eq_true] at h
    simp only [List.map_cons, RepL]
    exact ⟨_, _, rfl, zeroB_of h.1 w S σ, zerosB_of h.2 w S σ⟩
  | [], _ :: _, h, _, _, _ => by simp [zerosB] at h
  | _ :: _, [], h, _, _, _ => by simp [zerosB] at h
def oneB (P : Program) (t : TypeId) (x : AV) : Bool :=
  match P.info? t with
  | some i => i.size == 1 && (match i.zero with | some z => zeroB x z | none => false)
  | none => false
def ekB (P : Program) (e : TypeId) : EK → Bool
  | .i k => (match P.underlying e with | some (.int k') => kbeq k k' | _ => false) && oneB P e (.int k 0) && (match P.info? e with | some i => Nat.ble i.bytes 128 | none => false)
  | .r T => match P.info? e with
    | some i => (match i.zero with | some z => Nat.beq i.size (esz T) && Nat.beq z.cells.size (esz T) && Nat.ble i.bytes 128 | none => false)
    | none => false
  | .c => match P.info? e with
    | some i => (match i.zero with | some z => Nat.beq i.size 1 && Nat.beq z.cells.size 1 && Nat.ble i.bytes 128 | none => false)
    | none => false
def offsOf (P : Program) (fields : List Field) : Option (List (Nat × Nat)) := fields.mapM fun f => (P.info? f.type).map fun i => (f.offset, i.size)
def tiB (P : Program) (t : TypeId) : TI → Bool
  | .int k => (match P.underlying t with | some (.int k') => kbeq k k' | _ => false) && oneB P t (.int k 0)
  | .bool => (match P.underlying t with | some .bool => true | _ => false) && oneB P t (.bool false)
  | .str => (match P.underlying t with | some .string => true | _ => false) && oneB P t (.str [])
  | .ptr => (match P.underlying t with | some (.pointer _) => true | _ => false) && (match P.info? t with | some i => i.size == 1 | none => false)
  | .sl e ek => (match P.underlying t with | some (.slice e') => Nat.beq e e' | _ => false) && oneB P t .nil && ekB P e ek
  | .st offs z => match P.underlying t, P.info? t with
    | some (.struct fields), some i => Nat.beq i.size (cnt z) && (match i.zero with | some (.agg zv) => zerosB z zv.toList | _ => false) && (match offsOf P fields.toList with | some o => o == offs | none => false) && offs.all (fun p => !(p.2 == 0))
    | _, _ => false
  | .ar n z => match P.underlying t, P.info? t with
    | some (.array n' e), some i => Nat.beq n n' && Nat.beq i.size (cnt z) && (match i.zero with | some (.agg zv) => zerosB z zv.toList | _ => false) && (match P.info? e with | some j => j.size == 1 | none => false)
    | _, _ => false
def tB (P : Program) : TEnv → Bool
  | [] => true
  | (t, ti) :: l => tiB P t ti && tB P l
section
variable {P : Program}
theorem oneB_of {t : TypeId} {x : AV} (h : oneB P t x = true) : ∃ i z, P.info? t = some i ∧ i.size = 1 ∧ i.zero = some z ∧ zeroB x z = true := by
  unfold oneB at h
  cases hi : P.info? t with
  | none => rw [hi] at h; cases h
  | some i =>
    rw [hi] at h
    simp only [Bool.and_eq_true, beq_iff_eq] at h
    cases hz : i.zero with
    | none => rw [hz] at h; simp at h
    | some z => rw [hz] at h; exact ⟨i, z, rfl, h.1, hz, h.2⟩
theorem zero_int {k : IntKind} {z : Value} (h : zeroB (.int k 0) z = true) : z = .int k 0 := by
  cases z <;> simp [zeroB] at h
  rename_i k' n'
  obtain ⟨h1, rfl⟩ := h
  rw [kbeq_true h1]
theorem mapM_at {α β : Type} (g : α → Option β) : ∀ {l : List α} {r : List β}, l.mapM g = some r → ∀ (i : Nat) (y : β), r[i]? = some y → ∃ x, l[i]? = some x ∧ g x = some y
  | [], r, h, i, y, hy => by simp at h; subst h; simp at hy
  | x :: l, r, h, i, y, hy => by
    simp only [List.mapM_cons, Option.bind_eq_bind, Option.pure_def] at h
    cases hx : g x with
    | none => simp [hx] at h
    | some b =>
      cases hl : l.mapM g with
      | none => simp [hx, hl] at h
      | some bs =>
        simp [hx, hl] at h
        subst h
        cases i with
        | zero => simp at hy; subst hy; exact ⟨x, rfl, hx⟩
        | succ i => obtain ⟨x', h1, h2⟩ := mapM_at g hl i y (by simpa using hy); exact ⟨x', by simpa using h1, h2⟩
theorem tiB_of {t : TypeId} {ti : TI} (h : tiB P t ti = true) : TIok P t ti := by
  cases ti with
  | int k =>
    simp only [tiB, Bool.and_eq_true] at h
    obtain ⟨h1, h2⟩ := h
    obtain ⟨i, z, a, b, cz, d⟩ := oneB_of h2
    rw [zero_int d] at cz
    refine ⟨?_, i, a, b, cz⟩
    split at h1
    · rename_i k' hu; rw [hu, kbeq_true h1]
    · cases h1
  | bool =>
    simp only [tiB, Bool.and_eq_true] at h
    obtain ⟨h1, h2⟩ := h
    obtain ⟨i, z, a, b, cz, d⟩ := oneB_of h2
    refine ⟨?_, i, a, b, ?_⟩
    · split at h1
      · rename_i hu; exact hu
      · cases h1
    · cases z <;> simp [zeroB] at d
      subst d
      exact cz
  | str =>
    simp only [tiB, Bool.and_eq_true] at h
    obtain ⟨h1, h2⟩ := h
    obtain ⟨i, z, a, b, cz, d⟩ := oneB_of h2
    refine ⟨?_, i, a, b, ?_⟩
    · split at h1
      · rename_i hu; exact hu
      · cases h1
    · cases z <;> simp [zeroB] at d
      rename_i s
      rw [cz]
      have : s = ByteArray.empty := d
      rw [this]
  | ptr =>
    simp only [tiB, Bool.and_eq_true] at h
    obtain ⟨h1, h2⟩ := h
    split at h1
    · rename_i e hu
      split at h2
      · rename_i i hi; exact ⟨e, i, hu, hi, by simpa using h2⟩
      · cases h2
    · cases h1
  | sl e ek =>
    simp only [tiB, Bool.and_eq_true] at h
    obtain ⟨⟨h1, h2⟩, h3⟩ := h
    obtain ⟨i, z, a, b, cz, d⟩ := oneB_of h2
    refine ⟨?_, ⟨i, a, b, ?_⟩, ?_⟩
    · split at h1
      · rename_i e' hu; rw [hu, beq_true h1]
      · cases h1
    · have : z = .slice none 0 0 := by
        unfold zeroB at d
        split at d <;> first | rfl | (simp at *; done) | (rename_i heq _; cases heq) | (rename_i heq; cases heq) | cases d
      rw [cz, this]
    · cases ek with
      | i k =>
        simp only [ekB, Bool.and_eq_true] at h3
        obtain ⟨⟨h4, h5⟩, h6⟩ := h3
        obtain ⟨j, zj, a', b', cz', d'⟩ := oneB_of h5
        rw [zero_int d'] at cz'
        rw [a'] at h6
        refine ⟨?_, j, a', b', cz', Nat.le_of_ble_eq_true h6⟩
        split at h4
        · rename_i k' hu; rw [hu, kbeq_true h4]
        · cases h4
      | r T =>
        simp only [ekB] at h3
        split at h3
        · rename_i j hj
          split at h3
          · rename_i zj hzj
            simp only [Bool.and_eq_true] at h3
            exact ⟨j, zj, hj, hzj, beq_true h3.1.1, beq_true h3.1.2, Nat.le_of_ble_eq_true h3.2⟩
          · cases h3
        · cases h3
      | c =>
        simp only [ekB] at h3
        split at h3
        · rename_i j hj
          split at h3
          · rename_i zj hzj
            simp only [Bool.and_eq_true] at h3
            exact ⟨j, zj, hj, hzj, beq_true h3.1.1, beq_true h3.1.2, Nat.le_of_ble_eq_true h3.2⟩
          · cases h3
        · cases h3
  | st offs z =>
    simp only [tiB] at h
    split at h
    · rename_i fields i hu hi
      simp only [Bool.and_eq_true] at h
      obtain ⟨⟨⟨h1, h2⟩, h3⟩, h4⟩ := h
      split at h2
      · rename_i zv hz
        split at h3
        · rename_i o ho
          have ho' : offsOf P fields.toList = some offs := by rw [ho]; simpa using h3
          refine ⟨fields, i, zv.toList, hu, hi, beq_true h1, by rw [hz], zerosB_of h2, ho', fun f off size hf => ?_⟩
          obtain ⟨fd, h5, h6⟩ := mapM_at _ ho' f (off, size) hf
          have hall := List.all_eq_true.1 h4 (off, size) (List.mem_of_getElem? hf)
          cases hq : P.info? fd.type with
          | none => rw [hq] at h6; cases h6
          | some j =>
            rw [hq] at h6
            simp at h6
            exact ⟨fd, j, by simpa using h5, h6.1, hq, h6.2, by simpa using hall⟩
        · cases h3
      · cases h2
    · cases h
  | ar q z =>
    simp only [tiB] at h
    split at h
    · rename_i n' e i hu hi
      simp only [Bool.and_eq_true] at h
      obtain ⟨⟨⟨h1, h2⟩, h3⟩, h4⟩ := h
      split at h3
      · rename_i zv hz
        split at h4
        · rename_i j hj
          have := beq_true h1
          subst this
          exact ⟨e, i, j, zv.toList, hu, hi, beq_true h2, by rw [hz], zerosB_of h3, hj, by simpa using h4⟩
        · cases h4
      · cases h3
    · cases h
theorem tB_of : ∀ {Γ : TEnv}, tB P Γ = true → TOk P Γ
  | [], _ => fun t ti h => by simp [tget] at h
  | (t0, ti0) :: l, h => by
    simp only [tB, Bool.and_eq_true] at h
    intro t ti ht
    simp only [tget] at ht
    cases hb : Nat.beq t0 t with
    | true =>
      rw [hb] at ht
      cases ht
      have := beq_true hb
      subst this
      exact tiB_of h.1
    | false => rw [hb] at ht; exact tB_of h.2 t ti ht
end
end Go.Proofs.Ytnioiijcmdnhaaa.V
