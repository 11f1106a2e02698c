/-
  Tables of promises: one list for the functions, one for the loops of a function. Plain theorems; no function of the program is named here.
  Ranges: what comes in and what goes out is within its kind. Plain theorems; no function of the program is named here.
  Numbers and trees: plain facts by which a printed tree is met. No function of the program is named here.
-/
import Derived.Test.YtokeanadhihlfaaVLoop

set_option linter.all false
namespace Go.Proofs.Ytokeanadhihlfaa.V
open Go Go.RowKit

abbrev Tr := List AV → Option AV → (AV → Option AV → Prop) → Prop
abbrev LTr := AS → (Out → AS → Prop) → Prop
def ofL : List (Nat × Tr) → Oracle
  | [], _ => fun _ _ _ => False
  | (g, t) :: l, f => match Nat.beq g f with | true => t | false => ofL l f
def pmL : List (Nat × Pm) → FuncId → Option Pm
  | [], _ => none
  | (g, t) :: l, f => match Nat.beq g f with | true => some t | false => pmL l f
def lpL : List (Nat × LTr) → Nat → LTr
  | [], _ => fun _ _ => False
  | (g, t) :: l, f => match Nat.beq g f with | true => t | false => lpL l f
def kpL : List (Nat × List (Loc × Keep)) → Nat → Option (List (Loc × Keep))
  | [], _ => none
  | (g, t) :: l, f => match Nat.beq g f with | true => some t | false => kpL l f
def nmL : List (Nat × Nat) → Nat → Nat
  | [], _ => 0
  | (g, t) :: l, f => match Nat.beq g f with | true => t | false => nmL l f

/-- The function keeps the promise. -/
structure Keeps (P : Program) (f : FuncId) (t : Tr) : Prop where
  spec : ∀ args e post, t args e post → Spec P f args e post
  fn : ∃ fn, P.funcs[f]? = some fn ∧ fn.body.isSome = true ∧ (fn.name == "runtime.NumGoroutine") = false
def AllKeep (P : Program) : List (Nat × Tr) → Prop
  | [] => True
  | (g, t) :: l => Keeps P g t ∧ AllKeep P l
theorem ofL_ok {P : Program} : ∀ {l : List (Nat × Tr)}, AllKeep P l → OOk P (ofL l) ∧ FOk P (ofL l)
  | [], _ => ⟨fun f args e post h => h.elim, fun f args e post h => h.elim⟩
  | (g, t) :: l, h => by
    obtain ⟨h1, h2⟩ := h
    obtain ⟨i1, i2⟩ := ofL_ok h2
    constructor
    · intro f args e post hh
      simp only [ofL] at hh
      cases hb : Nat.beq g f with
      | true => rw [hb] at hh; have := beq_true hb; subst this; exact h1.spec args e post hh
      | false => rw [hb] at hh; exact i1 f args e post hh
    · intro f args e post hh
      simp only [ofL] at hh
      cases hb : Nat.beq g f with
      | true => have := beq_true hb; subst this; exact h1.fn
      | false => rw [hb] at hh; exact i2 f args e post hh
def noLoop : Nat → LTr := fun _ _ _ => False

section
variable {P : Program} {c : Cfg}
/-- Checks that are computed once for a function. -/
def fnB (c : Cfg) (fn : Func) : Bool :=
  match fn.body with
  | some code => plOk c code && Nat.beq c.n fn.ntmps && Nat.ble c.n E0
  | none => false
/-- The loops of a function. -/
def bodyOf (fn : Func) : Code := match fn.body with | some c => c | none => .skip
def keysOf (fn : Func) : List Nat := (loopsOf (bodyOf fn)).map keyOf
def loopAt (fn : Func) (key : Nat) : Code := ((loopsOf (bodyOf fn)).find? fun b => Nat.beq (keyOf b) key).getD .skip
def uniq : List Nat → Bool
  | [] => true
  | k :: l => match mem k l with | true => false | false => uniq l
theorem find_uniq {α : Type} (g : α → Nat) : ∀ {l : List α} {b : α}, uniq (l.map g) = true → b ∈ l → l.find? (fun x => Nat.beq (g x) (g b)) = some b
  | x :: l, b, hu, hb => by
    simp only [List.map_cons, uniq] at hu
    cases hm : mem (g x) (l.map g) with
    | true => rw [hm] at hu; cases hu
    | false =>
      rw [hm] at hu
      rcases List.mem_cons.1 hb with rfl | hb
      · simp [List.find?_cons]
      · have hne : g x ≠ g b := by
          intro e
          have : g x ∈ l.map g := by rw [e]; exact List.mem_map_of_mem hb
          rw [mem_iff.2 this] at hm
          cases hm
        have : Nat.beq (g x) (g b) = false := by
          cases h : Nat.beq (g x) (g b) with
          | false => rfl
          | true => exact absurd (beq_true h) hne
        rw [List.find?_cons]
        simp only [this]
        exact find_uniq g hu hb
theorem loopAt_of {fn : Func} (hu : uniq (keysOf fn) = true) {b : Code} (hb : b ∈ loopsOf (bodyOf fn)) : loopAt fn (keyOf b) = b := by
  unfold loopAt
  rw [find_uniq keyOf hu hb]
  rfl
/-- A table of loops is kept. -/
def AllLoops (P : Program) (n : Nat) (fn : Func) : List (Nat × LTr) → Prop
  | [] => True
  | (g, t) :: l => (∀ s k, t s k → Tri P n (.loop (loopAt fn g)) s k) ∧ AllLoops P n fn l
theorem loops_ok {n : Nat} {fn : Func} (hu : uniq (keysOf fn) = true) : ∀ {l : List (Nat × LTr)}, AllLoops P n fn l → ∀ body ∈ loopsOf (bodyOf fn), ∀ s k, lpL l (keyOf body) s k → Tri P n (.loop body) s k
  | [], _, body, hb, s, k, h => h.elim
  | (g, t) :: l, hl, body, hb, s, k, h => by
    simp only [lpL] at h
    cases hg : Nat.beq g (keyOf body) with
    | true =>
      rw [hg] at h
      have := hl.1 s k h
      rw [beq_true hg, loopAt_of hu hb] at this
      exact this
    | false => rw [hg] at h; exact loops_ok hu hl.2 body hb s k h
theorem sub_loops : ∀ {code b x : Code}, b ∈ loopsOf code → x ∈ loopsOf b → x ∈ loopsOf code
  | .seq u v, b, x, hb, hx => by
    simp only [loopsOf, List.mem_append] at hb ⊢
    rcases hb with h | h
    · exact .inl (sub_loops h hx)
    · exact .inr (sub_loops h hx)
  | .cond _ u v, b, x, hb, hx => by
    simp only [loopsOf, List.mem_append] at hb ⊢
    rcases hb with h | h
    · exact .inl (sub_loops h hx)
    · exact .inr (sub_loops h hx)
  | .block _ u, b, x, hb, hx => by
    simp only [loopsOf] at hb ⊢
    exact sub_loops hb hx
  | .loop u, b, x, hb, hx => by
    simp only [loopsOf, List.mem_cons] at hb ⊢
    rcases hb with rfl | h
    · exact .inr hx
    · exact .inr (sub_loops h hx)
  | .skip, b, x, hb, _ => by simp [loopsOf] at hb
  | .region _ _ _, b, x, hb, _ => by simp [loopsOf] at hb
  | .exit _, b, x, hb, _ => by simp [loopsOf] at hb
  | .ret, b, x, hb, _ => by simp [loopsOf] at hb
  | .rangeFunc _ _ _ _, b, x, hb, _ => by simp [loopsOf] at hb
  | .scope _, b, x, hb, _ => by simp [loopsOf] at hb
  | .label _, b, x, hb, _ => by simp [loopsOf] at hb
  | .goto _, b, x, hb, _ => by simp [loopsOf] at hb
  | .refuse _, b, x, hb, _ => by simp [loopsOf] at hb
/-- A function's promise, from what the evaluator gives. -/
theorem fun_ok (hΓ : TOk P c.Γ) {l : List (Nat × Tr)} (hl : AllKeep P l) (hC : c.C = ofL l) (hmx : P.follows .mixedOrders = true) {f : FuncId} {fn : Func} (hf : P.funcs[f]? = some fn) (hB : fnB c fn = true)
    {ls : List (Nat × LTr)} (hL : c.L = lpL ls) (hu : ls = [] ∨ uniq (keysOf fn) = true) (hls : AllLoops P c.n fn ls) {pm : Pm} {args : List AV} (hargs : args.length ≤ c.n) {e : Option AV} (hpe : (∃ t l, e = some (.box t l)) → ∃ i, pm.ent = .bx i) {post : AV → Option AV → Prop}
    (h : runF c pm fn args e post) : Spec P f args e post := by
  have hc : COk P c := ⟨hΓ, by rw [hC]; exact (ofL_ok hl).1, by rw [hC]; exact (ofL_ok hl).2⟩
  unfold fnB at hB
  cases hb : fn.body with
  | none => rw [hb] at hB; cases hB
  | some code =>
    rw [hb] at hB
    simp only [Bool.and_eq_true] at hB
    refine runF_ok hc hmx hf hb (beq_true hB.1.2) (Nat.le_of_ble_eq_true hB.2) hB.1.1 ?_ hargs hpe h
    rcases hu with rfl | hu
    · intro body _ s k hh
      rw [hL] at hh
      exact hh.elim
    · have hbo : bodyOf fn = code := by simp [bodyOf, hb]
      intro body hbm s k hh
      rw [hL] at hh
      exact loops_ok hu hls body (by rw [hbo]; exact hbm) s k hh
/-- A loop's promise, from what the evaluator gives for its rounds; 'ls' are the loops inside. -/
theorem iter_ok (hΓ : TOk P c.Γ) {l : List (Nat × Tr)} (hl : AllKeep P l) (hC : c.C = ofL l) (hmx : P.follows .mixedOrders = true) {fn : Func} {key : Nat} (hp : plOk c (loopAt fn key) = true) {ls : List (Nat × LTr)} (hL : c.L = lpL ls)
    (hu : ls = [] ∨ (uniq (keysOf fn) && mem key (keysOf fn)) = true) (hls : AllLoops P c.n fn ls) {kps : List (Loc × Keep)} {tr : Trim} {k : Out → AS → Prop} (f : Nat) {s : AS} (h : iterL (stepL c kps tr (loopAt fn key)) k f s) : Tri P c.n (.loop (loopAt fn key)) s k := by
  have hc : COk P c := ⟨hΓ, by rw [hC]; exact (ofL_ok hl).1, by rw [hC]; exact (ofL_ok hl).2⟩
  refine loop_ok hc hmx hp ?_ f h
  rcases hu with rfl | hu
  · intro body _ s k hh
    rw [hL] at hh
    exact hh.elim
  · simp only [Bool.and_eq_true] at hu
    intro b hb s k hh
    rw [hL] at hh
    have hk := mem_iff.1 hu.2
    unfold keysOf at hk
    obtain ⟨b0, hb0, rfl⟩ := List.mem_map.1 hk
    rw [loopAt_of hu.1 hb0] at hb
    exact loops_ok hu.1 hls b (sub_loops hb0 hb) s k hh
end
end Go.Proofs.Ytokeanadhihlfaa.V


set_option linter.all false
namespace Go.Proofs.Ytokeanadhihlfaa.V
open Go Go.RowKit

def RngL (k : IntKind) (l : List Int) : Prop := ∀ n ∈ l, inK k n = true
def RngR (T : Nat) (r : Rec) : Prop :=
  match T with
  | 0 => inK .u32 r.a = true ∧ inK .i64 r.b = true ∧ inK .i64 r.c = true ∧ inK .i64 r.d = true ∧ RngL .u8 r.s ∧ r.s.length ≤ maxLen
  | _ => RngL .u8 r.s ∧ r.s.length ≤ maxLen
mutual
def InR : AV → Prop
  | .int k n => inK k n = true
  | .ints _ k l => RngL k l ∧ l.length ≤ maxLen
  | .rs _ T l => (∀ r ∈ l, RngR T r) ∧ l.length ≤ maxLen
  | .lini _ k l => RngL k l ∧ l.length ≤ maxLen
  | .linr _ T l => (∀ r ∈ l, RngR T r) ∧ l.length ≤ maxLen
  | .agg l => InRL l
  | .tup l => InRL l
  | .box _ l => InRL l
  | _ => True
def InRL : List AV → Prop
  | [] => True
  | x :: l => InR x ∧ InRL l
end
def InRO : Option AV → Prop
  | none => True
  | some x => InR x
section
variable {P : Program} {w : World} {S : Nat → Prop} {σ : Sg}
theorem SI.inr {A : Option Addr} {c : Nat} {k : IntKind} {l : List Int} (h : SI w S A c k l) : RngL k l ∧ l.length ≤ maxLen := ⟨h.rng, Nat.le_trans h.cap h.max⟩
theorem RecRep.inr {T : Nat} {r : Rec} {cs : List Value} (h : RecRep w S T r cs) : RngR T r := by
  unfold RecRep at h
  unfold RngR
  cases T with
  | zero => obtain ⟨A, c, _, h1, h2, h3, h4, h5⟩ := h; exact ⟨h1, h2, h3, h4, h5.inr.1, h5.inr.2⟩
  | succ T => obtain ⟨A, c, _, h5⟩ := h; exact h5.inr
theorem RecsRep.inr {T : Nat} : ∀ {l : List Rec} {css : List (List Value)}, RecsRep w S T l css → ∀ r ∈ l, RngR T r
  | [], _, _ => by simp
  | _ :: _, _ :: _, h => by
    intro r hr
    rcases List.mem_cons.1 hr with rfl | hr
    · exact h.1.inr
    · exact RecsRep.inr h.2 r hr
  | _ :: _, [], h => h.elim
mutual
theorem Rep.inr : ∀ (x : AV) (cs : List Value), Rep w S σ x cs → InR x := by
  intro x cs h
  cases x with
  | int k n => simp only [Rep] at h; exact h.2
  | ints f k l => simp only [Rep] at h; obtain ⟨A, c, _, h1, _⟩ := h; exact h1.inr
  | rs f T l => simp only [Rep] at h; obtain ⟨A, c, css, _, h1, h2, _, h4, _⟩ := h; exact ⟨h4.inr, Nat.le_trans h1 h2⟩
  | agg l => simp only [Rep] at h; obtain ⟨css, h1, _⟩ := h; exact RepL.inr l css h1
  | tup l => simp [Rep] at h
  | box t l => simp [Rep] at h
  | lini t k l => simp [Rep] at h
  | linr t k l => simp [Rep] at h
  | _ => simp only [InR]
theorem RepL.inr : ∀ (l : List AV) (css : List (List Value)), RepL w S σ l css → InRL l := by
  intro l css h
  cases l with
  | nil => simp only [InRL]
  | cons x l =>
    simp only [RepL] at h
    obtain ⟨cs, css', rfl, h1, h2⟩ := h
    exact ⟨Rep.inr x cs h1, RepL.inr l css' h2⟩
end
theorem RepV0.inr {x : AV} {v : Value} (h : RepV0 w S σ x v) : InR x := by
  unfold RepV0 at h
  split at h
  · obtain ⟨cs, _, h⟩ := h; exact Rep.inr _ _ h
  · exact Rep.inr _ _ h
theorem RepVL.inr : ∀ {l : List AV} {vs : List Value}, RepVL w S σ l vs → InRL l
  | [], _, _ => trivial
  | x :: l, vs, h => by
    obtain ⟨v, vs', rfl, h1, h2⟩ := h
    exact ⟨h1.inr, RepVL.inr h2⟩
theorem RepV.inr {x : AV} {v : Value} (h : RepV w S σ x v) : InR x := by
  unfold RepV at h
  split at h
  · trivial
  · obtain ⟨vs, _, h⟩ := h; exact h.inr
  · exact h.inr
theorem EntR.inr {e : AV} {m : Mb} (h : EntR w S σ e m) : InR e := by
  unfold EntR at h
  split at h
  · rename_i t k l
    obtain ⟨_, h1, h2, h3, h4, _⟩ := h
    exact ⟨h4, by omega⟩
  · rename_i t T l
    obtain ⟨_, h1, h2, h3, h4, h5⟩ := h
    refine ⟨?_, by omega⟩
    cases hg : m.g with
    | none =>
      have := h4 hg
      have : l = [] := List.eq_nil_of_length_eq_zero (by omega)
      subst this
      simp
    | some g =>
      obtain ⟨cur, css, _, _, hr, _⟩ := h5 g hg
      exact hr.inr
  · obtain ⟨g, css, _, _, _, _, _, h, _⟩ := h
    exact RepL.inr _ _ h
  · rename_i f k l
    obtain ⟨_, h1, h2, h3, h4, _⟩ := h
    exact ⟨h4, by omega⟩
  · rename_i f T l
    obtain ⟨_, h1, h2, h3, _, ⟨w1, S1, css, hr⟩, _⟩ := h
    exact ⟨hr.inr, by omega⟩
  · exact h.elim
theorem EntOk.inr {m : Option Mb} {e : Option AV} (h : EntOk w S m e) : InRO e := by
  unfold EntOk at h
  cases e with
  | none => trivial
  | some x =>
    simp only at h
    obtain ⟨mb, _, h⟩ := h
    exact h.1.inr
/-- What comes in is within its kinds. -/
theorem Spec.inR {f : FuncId} {args : List AV} {e : Option AV} {post : AV → Option AV → Prop} (h : InRL args → InRO e → Spec P f args e post) : Spec P f args e post :=
  fun w S m vs hS hv he => h hv.inr he.inr w S m vs hS hv he
/-- What goes out is within its kinds. -/
theorem Spec.outR {f : FuncId} {args : List AV} {e : Option AV} {post : AV → Option AV → Prop} (h : Spec P f args e (fun r e' => InR r → InRO e' → post r e')) : Spec P f args e post := by
  intro w S m vs hS hv he
  refine (h w S m vs hS hv he).mono ?_
  rintro en w' ⟨r, e', v, S', m', hp, rest⟩
  exact ⟨r, e', v, S', m', hp rest.2.1.inr rest.2.2.1.inr, rest⟩
theorem br_of {c : Bool} {x y : Prop} (h1 : c = true → x) (h2 : c = false → y) : br c x y := by
  cases c with
  | true => exact h1 rfl
  | false => exact h2 rfl
theorem chk_of {c : Bool} {x : Prop} (h1 : c = true) (h2 : x) : chk c x := by subst h1; exact h2
theorem br_iff {c : Bool} {x y : Prop} : br c x y ↔ (c = true → x) ∧ (c = false → y) := by cases c <;> simp [br]
theorem chk_iff {c : Bool} {x : Prop} : chk c x ↔ c = true ∧ x := by cases c <;> simp [chk, br]
end
end Go.Proofs.Ytokeanadhihlfaa.V


set_option linter.all false
namespace Go.Proofs.Ytokeanadhihlfaa.V
open Go
/-- A proposition that is not opened. -/
structure Ok (p : Prop) : Prop where
  out : p
theorem fun_ok' {P : Program} {c : Cfg} (hΓ : TOk P c.Γ) {l : List (Nat × Tr)} (hl : AllKeep P l) (hC : c.C = ofL l) (hmx : P.follows .mixedOrders = true) {f : FuncId} {fn : Func} (hf : P.funcs[f]? = some fn) (hB : fnB c fn = true)
    {ls : List (Nat × LTr)} (hL : c.L = lpL ls) (hu : ls = [] ∨ uniq (keysOf fn) = true) (hls : AllLoops P c.n fn ls) {pm : Pm} {args : List AV} (hargs : args.length ≤ c.n) {e : Option AV} (hpe : (∃ t l, e = some (.box t l)) → ∃ i, pm.ent = .bx i) {post : AV → Option AV → Prop}
    (h : Ok (runF c pm fn args e post)) : Spec P f args e post := fun_ok hΓ hl hC hmx hf hB hL hu hls hargs hpe h.out
section
variable {x y : Prop}
theorem br_dec {p : Prop} [Decidable p] (h1 : p → x) (h2 : ¬ p → y) : br (decide p) x y := br_of (fun h => h1 (of_decide_eq_true h)) (fun h => h2 (of_decide_eq_false h))
theorem br_ne {a b : Int} (h1 : a ≠ b → x) (h2 : a = b → y) : br (a != b) x y := br_of (fun h => h1 (by simpa using h)) (fun h => h2 (by simpa using h))
theorem br_eq {a b : Int} (h1 : a = b → x) (h2 : a ≠ b → y) : br (a == b) x y := br_of (fun h => h1 (by simpa using h)) (fun h => h2 (by simpa using h))
theorem br_not {c : Bool} (h : br c y x) : br (!c) x y := by cases c <;> exact h
theorem br_beq {a b : Bool} (h1 : a = b → x) (h2 : a ≠ b → y) : br (a == b) x y := br_of (fun h => h1 (by simpa using h)) (fun h => h2 (by simpa using h))
theorem br_str {a b : List Int} (h1 : a = b → x) (h2 : a ≠ b → y) : br (strEq a b) x y := br_of (fun h => h1 (by simpa [strEq] using h)) (fun h => h2 (by simpa [strEq] using h))
theorem chk_dec {p : Prop} [Decidable p] (h1 : p) (h2 : x) : chk (decide p) x := chk_of (decide_eq_true h1) h2
theorem chk_and {a b : Bool} (h : chk a (chk b x)) : chk (a && b) x := by cases a <;> cases b <;> first | exact h | exact h.elim
theorem chk_inB {i : Int} {n : Nat} (h1 : 0 ≤ i) (h2 : i < n) (h3 : x) : chk (inB i n) x := chk_of (by simp [inB]; omega) h3
theorem chk_nz {a : Int} (h1 : a ≠ 0) (h3 : x) : chk (!a == 0) x := chk_of (by simpa using h1) h3
end
theorem strEq_refl (a : List Int) : strEq a a = true := by simp [strEq]
theorem strEq_iff {a b : List Int} : strEq a b = true ↔ a = b := by simp [strEq]
theorem strEq_dec (a b : List Int) : strEq a b = decide (a = b) := by
  rw [Bool.eq_iff_iff]
  simp [strEq]
theorem post_of {post : AV → Option AV → Prop} {r r' : AV} {e e' : Option AV} (h : post r e) (h1 : r = r') (h2 : e = e') : post r' e' := by subst h1; subst h2; exact h
theorem k_of {k : Out → AS → Prop} {o : Out} {s s' : AS} (h : k o s) (h1 : s = s') : k o s' := by subst h1; exact h

theorem wrap_i64 {n : Int} (h1 : -9223372036854775808 ≤ n) (h2 : n ≤ 9223372036854775807) : IntKind.i64.wrap n = n := by
  show (let m := n % (2 ^ 64 : Int); if (true && decide (m ≥ (2 ^ 63 : Int))) = true then m - (2 ^ 64 : Int) else m) = n
  simp only [Bool.true_and, decide_eq_true_eq]
  split <;> omega
theorem wrap_i64_rng (n : Int) : -9223372036854775808 ≤ IntKind.i64.wrap n ∧ IntKind.i64.wrap n ≤ 9223372036854775807 := by
  show _ ≤ (let m := n % (2 ^ 64 : Int); if (true && decide (m ≥ (2 ^ 63 : Int))) = true then m - (2 ^ 64 : Int) else m) ∧ (let m := n % (2 ^ 64 : Int); if (true && decide (m ≥ (2 ^ 63 : Int))) = true then m - (2 ^ 64 : Int) else m) ≤ _
  simp only [Bool.true_and, decide_eq_true_eq]
  split <;> omega
theorem wrap_u (k : IntKind) (hk : k.signed = false) (n : Int) : k.wrap n = n % (2 ^ k.bits : Int) := by simp [IntKind.wrap, hk]
theorem wrap_u64_eq (n : Int) : IntKind.u64.wrap n = n % 18446744073709551616 := wrap_u .u64 rfl n
theorem wrap_u32_eq (n : Int) : IntKind.u32.wrap n = n % 4294967296 := wrap_u .u32 rfl n
theorem wrap_u8_eq (n : Int) : IntKind.u8.wrap n = n % 256 := wrap_u .u8 rfl n
theorem wrap_u8 {n : Int} (h1 : 0 ≤ n) (h2 : n ≤ 255) : IntKind.u8.wrap n = n := by rw [wrap_u8_eq]; omega
theorem wrap_u32 {n : Int} (h1 : 0 ≤ n) (h2 : n ≤ 4294967295) : IntKind.u32.wrap n = n := by rw [wrap_u32_eq]; omega
theorem wrap_u64 {n : Int} (h1 : 0 ≤ n) (h2 : n ≤ 18446744073709551615) : IntKind.u64.wrap n = n := by rw [wrap_u64_eq]; omega
theorem in_i64 {n : Int} : inK .i64 n = true ↔ -9223372036854775808 ≤ n ∧ n ≤ 9223372036854775807 := by simp only [inK, Bool.and_eq_true, decide_eq_true_eq]; rfl
theorem in_u64 {n : Int} : inK .u64 n = true ↔ 0 ≤ n ∧ n ≤ 18446744073709551615 := by simp only [inK, Bool.and_eq_true, decide_eq_true_eq]; rfl
theorem in_u32 {n : Int} : inK .u32 n = true ↔ 0 ≤ n ∧ n ≤ 4294967295 := by simp only [inK, Bool.and_eq_true, decide_eq_true_eq]; rfl
theorem in_u8 {n : Int} : inK .u8 n = true ↔ 0 ≤ n ∧ n ≤ 255 := by simp only [inK, Bool.and_eq_true, decide_eq_true_eq]; rfl
theorem maxLen_eq : maxLen = 1099511627776 ∨ True := .inr trivial
/-- Powers. -/
theorem shl_eq (k : IntKind) (x y : Int) : shl k x y = k.wrap (x * 2 ^ min y.toNat k.bits) := rfl
theorem shr_eq (k : IntKind) (x y : Int) : shr k x y = x.fdiv (2 ^ min y.toNat k.bits) := rfl
end Go.Proofs.Ytokeanadhihlfaa.V
