/-
  Tables of promises: one list for the functions, one for the loops of a function. Plain theorems; no function of the program is named here.
-/
import Derived.Test.YtnioiijcmdnhaaaVLoop
set_option linter.all false
namespace Go.Proofs.Ytnioiijcmdnhaaa.V
open Go Go.RowKit

abbrev Tr := List AV → Option AV → (AV → Option AV → Prop) → Prop
abbrev LTr := AS → (Out → AS → Prop) → Prop
def ofL : List (Nat × Tr) → Oracle
  | [], _ => fun _ _ _ => False
  | (g, t) :: l, f => match Nat.beq g f with | true => t | false => ofL l f
def pmL : List (Nat × Pm) → FuncId → Option Pm
  | [], _ => none
  | (g, t) :: l, f => match Nat.beq g f with | true => some t | false => pmL l f
def lpL : List (Nat × LTr) → Nat → LTr
  | [], _ => fun _ _ => False
  | (g, t) :: l, f => match Nat.beq g f with | true => t | false => lpL l f
def kpL : List (Nat × List (Loc × Keep)) → Nat → Option (List (Loc × Keep))
  | [], _ => none
  | (g, t) :: l, f => match Nat.beq g f with | true => some t | false => kpL l f
def nmL : List (Nat × Nat) → Nat → Nat
  | [], _ => 0
  | (g, t) :: l, f => match Nat.beq g f with | true => t | false => nmL l f

/-- The function keeps the promise. -/
structure Keeps (P : Program) (f : FuncId) (t : Tr) : Prop where
  spec : ∀ args e post, t args e post → Spec P f args e post
  fn : ∃ fn, P.funcs[f]? = some fn ∧ fn.body.isSome = true ∧ (fn.name == "runtime.NumGoroutine") = false
def AllKeep (P : Program) : List (Nat × Tr) → Prop
  | [] => True
  | (g, t) :: l => Keeps P g t ∧ AllKeep P l
theorem ofL_ok {P : Program} : ∀ {l : List (Nat × Tr)}, AllKeep P l → OOk P (ofL l) ∧ FOk P (ofL l)
  | [], _ => ⟨fun f args e post h => h.elim, fun f args e post h => h.elim⟩
  | (g, t) :: l, h => by
    obtain ⟨h1, h2⟩ := h
    obtain ⟨i1, i2⟩ := ofL_ok h2
    constructor
    · intro f args e post hh
      simp only [ofL] at hh
      cases hb : Nat.beq g f with
      | true => rw [hb] at hh; have := beq_true hb; subst this; exact h1.spec args e post hh
      | false => rw [hb] at hh; exact i1 f args e post hh
    · intro f args e post hh
      simp only [ofL] at hh
      cases hb : Nat.beq g f with
      | true => have := beq_true hb; subst this; exact h1.fn
      | false => rw [hb] at hh; exact i2 f args e post hh
def noLoop : Nat → LTr := fun _ _ _ => False

section
variable {P : Program} {c : Cfg}
/-- Checks that are computed once for a function. -/
def fnB (c : Cfg) (fn : Func) : Bool :=
  match fn.body with
  | some code => plOk c code && Nat.beq c.n fn.ntmps && Nat.ble c.n E0
  | none => false
/-- The loops of a function. -/
def bodyOf (fn : Func) : Code := match fn.body with | some c => c | none => .skip
def keysOf (fn : Func) : List Nat := (loopsOf (bodyOf fn)).map keyOf
def loopAt (fn : Func) (key : Nat) : Code := ((loopsOf (bodyOf fn)).find? fun b => Nat.beq (keyOf b) key).getD .skip
def uniq : List Nat → Bool
  | [] => true
  | k :: l => match mem k l with | true => false | false => uniq l
theorem find_uniq {α : Type} (g : α → Nat) : ∀ {l : List α} {b : α}, uniq (l.map g) = true → b ∈ l → l.find? (fun x => Nat.beq (g x) (g b)) = some b
  | x :: l, b, hu, hb => by
    simp only [List.map_cons, uniq] at hu
    cases hm : mem (g x) (l.map g) with
    | true => rw [hm] at hu; cases hu
    | false =>
      rw [hm] at hu
      rcases List.mem_cons.1 hb with rfl | hb
      · simp [List.find?_cons]
      · have hne : g x ≠ g b := by
          intro e
          have : g x ∈ l.map g := by rw [e]; exact List.mem_map_of_mem hb
          rw [mem_iff.2 this] at hm
          cases hm
        have : Nat.beq (g x) (g b) = false := by
          cases h : Nat.beq (g x) (g b) with
          | false => rfl
          | true => exact absurd (beq_true h) hne
        rw [List.find?_cons]
        simp only [this]
        exact find_uniq g hu hb
theorem loopAt_of {fn : Func} (hu : uniq (keysOf fn) = true) {b : Code} (hb : b ∈ loopsOf (bodyOf fn)) : loopAt fn (keyOf b) = b := by
  unfold loopAt
  rw [find_uniq keyOf hu hb]
  rfl
/-- A table of loops is kept. -/
def AllLoops (P : Program) (n : Nat) (fn : Func) : List (Nat × LTr) → Prop
  | [] => True
  | (g, t) :: l => (∀ s k, t s k → Tri P n (.loop (loopAt fn g)) s k) ∧ AllLoops P n fn l
theorem loops_ok {n : Nat} {fn : Func} (hu : uniq (keysOf fn) = true) : ∀ {l : List (Nat × LTr)}, AllLoops P n fn l → ∀ body ∈ loopsOf (bodyOf fn), ∀ s k, lpL l (keyOf body) s k → Tri P n (.loop body) s k
  | [], _, body, hb, s, k, h => h.elim
  | (g, t) :: l, hl, body, hb, s, k, h => by
    simp only [lpL] at h
    cases hg : Nat.beq g (keyOf body) with
    | true =>
      rw [hg] at h
      have := hl.1 s k h
      rw [beq_true hg, loopAt_of hu hb] at this
      exact this
    | false => rw [hg] at h; exact loops_ok hu hl.2 body hb s k h
theorem sub_loops : ∀ {code b x : Code}, b ∈ loopsOf code → x ∈ loopsOf b → x ∈ loopsOf code
  | .seq u v, b, x, hb, hx => by
    simp only [loopsOf, List.mem_append] at hb ⊢
    rcases hb with h | h
    · exact .inl (sub_loops h hx)
    · exact .inr (sub_loops h hx)
  | .cond _ u v, b, x, hb, hx => by
    simp only [loopsOf, List.mem_append] at hb ⊢
    rcases hb with h | h
    · exact .inl (sub_loops h hx)
    · exact .inr (sub_loops h hx)
  | .block _ u, b, x, hb, hx => by
    simp only [loopsOf] at hb ⊢
    exact sub_loops hb hx
  | .loop u, b, x, hb, hx => by
    simp only [loopsOf, List.mem_cons] at hb ⊢
    rcases hb with rfl | h
    · exact .inr hx
    · exact .inr (sub_loops h hx)
  | .skip, b, x, hb, _ => by simp [loopsOf] at hb
  | .region _ _ _, b, x, hb, _ => by simp [loopsOf] at hb
  | .exit _, b, x, hb, _ => by simp [loopsOf] at hb
  | .ret, b, x, hb, _ => by simp [loopsOf] at hb
  | .rangeFunc _ _ _ _, b, x, hb, _ => by simp [loopsOf] at hb
  | .scope _, b, x, hb, _ => by simp [loopsOf] at hb
  | .label _, b, x, hb, _ => by simp [loopsOf] at hb
  | .goto _, b, x, hb, _ => by simp [loopsOf] at hb
  | .refuse _, b, x, hb, _ => by simp [loopsOf] at hb
/-- A function's promise, from what the evaluator gives. -/
theorem fun_ok (hΓ : TOk P c.Γ) {l : List (Nat × Tr)} (hl : AllKeep P l) (hC : c.C = ofL l) (hmx : P.follows .mixedOrders = true) {f : FuncId} {fn : Func} (hf : P.funcs[f]? = some fn) (hB : fnB c fn = true)
    {ls : List (Nat × LTr)} (hL : c.L = lpL ls) (hu : ls = [] ∨ uniq (keysOf fn) = true) (hls : AllLoops P c.n fn ls) {pm : Pm} {args : List AV} (hargs : args.length ≤ c.n) {e : Option AV} (hpe : (∃ t l, e = some (.box t l)) → ∃ i, pm.ent = .bx i) {post : AV → Option AV → Prop}
    (h : runF c pm fn args e post) : Spec P f args e post := by
  have hc : COk P c := ⟨hΓ, by rw [hC]; exact (ofL_ok hl).1, by rw [hC]; exact (ofL_ok hl).2⟩
  unfold fnB at hB
  cases hb : fn.body with
  | none => rw [hb] at hB; cases hB
  | some code =>
    rw [hb] at hB
    simp only [Bool.and_eq_true] at hB
    refine runF_ok hc hmx hf hb (beq_true hB.1.2) (Nat.le_of_ble_eq_true hB.2) hB.1.1 ?_ hargs hpe h
    rcases hu with rfl | hu
    · intro body _ s k hh
      rw [hL] at hh
      exact hh.elim
    · have hbo : bodyOf fn = code := by simp [bodyOf, hb]
      intro body hbm s k hh
      rw [hL] at hh
      exact loops_ok hu hls body (by rw [hbo]; exact hbm) s k hh
/-- A loop's promise, from what the evaluator gives for its rounds; 'ls' are the loops inside. -/
theorem iter_ok (hΓ : TOk P c.Γ) {l : List (Nat × Tr)} (hl : AllKeep P l) (hC : c.C = ofL l) (hmx : P.follows .mixedOrders = true) {fn : Func} {key : Nat} (hp : plOk c (loopAt fn key) = true) {ls : List (Nat × LTr)} (hL : c.L = lpL ls)
    (hu : ls = [] ∨ (uniq (keysOf fn) && mem key (keysOf fn)) = true) (hls : AllLoops P c.n fn ls) {kps : List (Loc × Keep)} {tr : Trim} {k : Out → AS → Prop} (f : Nat) {s : AS} (h : iterL (stepL c kps tr (loopAt fn key)) k f s) : Tri P c.n (.loop (loopAt fn key)) s k := by
  have hc : COk P c := ⟨hΓ, by rw [hC]; exact (ofL_ok hl).1, by rw [hC]; exact (ofL_ok hl).2⟩
  refine loop_ok hc hmx hp ?_ f h
  rcases hu with rfl | hu
  · intro body _ s k hh
    rw [hL] at hh
    exact hh.elim
  · simp only [Bool.and_eq_true] at hu
    intro b hb s k hh
    rw [hL] at hh
    have hk := mem_iff.1 hu.2
    unfold keysOf at hk
    obtain ⟨b0, hb0, rfl⟩ := List.mem_map.1 hk
    rw [loopAt_of hu.1 hb0] at hb
    exact loops_ok hu.1 hls b (sub_loops hb0 hb) s k hh
end
end Go.Proofs.Ytnioiijcmdnhaaa.V
