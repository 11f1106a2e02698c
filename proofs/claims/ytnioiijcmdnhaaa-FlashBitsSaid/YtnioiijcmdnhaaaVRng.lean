/-
  Ranges: what comes in and what goes out is within its kind. Plain theorems; no function of the program is named here.
-/
import Derived.Test.YtnioiijcmdnhaaaVTab
set_option linter.all false
namespace Go.Proofs.Ytnioiijcmdnhaaa.V
open Go Go.RowKit

def RngL (k : IntKind) (l : List Int) : Prop := ∀ n ∈ l, inK k n = true
def RngR (T : Nat) (r : Rec) : Prop :=
  match T with
  | 0 => inK .u32 r.a = true ∧ inK .i64 r.b = true ∧ inK .i64 r.c = true ∧ inK .i64 r.d = true ∧ RngL .u8 r.s ∧ r.s.length ≤ maxLen
  | _ => RngL .u8 r.s ∧ r.s.length ≤ maxLen
mutual
def InR : AV → Prop
  | .int k n => inK k n = true
  | .ints _ k l => RngL k l ∧ l.length ≤ maxLen
  | .rs _ T l => (∀ r ∈ l, RngR T r) ∧ l.length ≤ maxLen
  | .lini _ k l => RngL k l ∧ l.length ≤ maxLen
  | .linr _ T l => (∀ r ∈ l, RngR T r) ∧ l.length ≤ maxLen
  | .agg l => InRL l
  | .tup l => InRL l
  | .box _ l => InRL l
  | _ => True
def InRL : List AV → Prop
  | [] => True
  | x :: l => InR x ∧ InRL l
end
def InRO : Option AV → Prop
  | none => True
  | some x => InR x
section
variable {P : Program} {w : World} {S : Nat → Prop} {σ : Sg}
theorem SI.inr {A : Option Addr} {c : Nat} {k : IntKind} {l : List Int} (h : SI w S A c k l) : RngL k l ∧ l.length ≤ maxLen := ⟨h.rng, Nat.le_trans h.cap h.max⟩
theorem RecRep.inr {T : Nat} {r : Rec} {cs : List Value} (h : RecRep w S T r cs) : RngR T r := by
  unfold RecRep at h
  unfold RngR
  cases T with
  | zero => obtain ⟨A, c, _, h1, h2, h3, h4, h5⟩ := h; exact ⟨h1, h2, h3, h4, h5.inr.1, h5.inr.2⟩
  | succ T => obtain ⟨A, c, _, h5⟩ := h; exact h5.inr
theorem RecsRep.inr {T : Nat} : ∀ {l : List Rec} {css : List (List Value)}, RecsRep w S T l css → ∀ r ∈ l, RngR T r
  | [], _, _ => by simp
  | _ :: _, _ :: _, h => by
    intro r hr
    rcases List.mem_cons.1 hr with rfl | hr
    · exact h.1.inr
    · exact RecsRep.inr h.2 r hr
  | _ :: _, [], h => h.elim
mutual
theorem Rep.inr : ∀ (x : AV) (cs : List Value), Rep w S σ x cs → InR x := by
  intro x cs h
  cases x with
  | int k n => simp only [Rep] at h; exact h.2
  | ints f k l => simp only [Rep] at h; obtain ⟨A, c, _, h1, _⟩ := h; exact h1.inr
  | rs f T l => simp only [Rep] at h; obtain ⟨A, c, css, _, h1, h2, _, h4, _⟩ := h; exact ⟨h4.inr, Nat.le_trans h1 h2⟩
  | agg l => simp only [Rep] at h; obtain ⟨css, h1, _⟩ := h; exact RepL.inr l css h1
  | tup l => simp [Rep] at h
  | box t l => simp [Rep] at h
  | lini t k l => simp [Rep] at h
  | linr t k l => simp [Rep] at h
  | _ => simp only [InR]
theorem RepL.inr : ∀ (l : List AV) (css : List (List Value)), RepL w S σ l css → InRL l := by
  intro l css h
  cases l with
  | nil => simp only [InRL]
  | cons x l =>
    simp only [RepL] at h
    obtain ⟨cs, css', rfl, h1, h2⟩ := h
    exact ⟨Rep.inr x cs h1, RepL.inr l css' h2⟩
end
theorem RepV0.inr {x : AV} {v : Value} (h : RepV0 w S σ x v) : InR x := by
  unfold RepV0 at h
  split at h
  · obtain ⟨cs, _, h⟩ := h; exact Rep.inr _ _ h
  · exact Rep.inr _ _ h
theorem RepVL.inr : ∀ {l : List AV} {vs : List Value}, RepVL w S σ l vs → InRL l
  | [], _, _ => trivial
  | x :: l, vs, h => by
    obtain ⟨v, vs', rfl, h1, h2⟩ := h
    exact ⟨h1.inr, RepVL.inr h2⟩
theorem RepV.inr {x : AV} {v : Value} (h : RepV w S σ x v) : InR x := by
  unfold RepV at h
  split at h
  · trivial
  · obtain ⟨vs, _, h⟩ := h; exact h.inr
  · exact h.inr
theorem EntR.inr {e : AV} {m : Mb} (h : EntR w S σ e m) : InR e := by
  unfold EntR at h
  split at h
  · rename_i t k l
    obtain ⟨_, h1, h2, h3, h4, _⟩ := h
    exact ⟨h4, by omega⟩
  · rename_i t T l
    obtain ⟨_, h1, h2, h3, h4, h5⟩ := h
    refine ⟨?_, by omega⟩
    cases hg : m.g with
    | none =>
      have := h4 hg
      have : l = [] := List.eq_nil_of_length_eq_zero (by omega)
      subst this
      simp
    | some g =>
      obtain ⟨cur, css, _, _, hr, _⟩ := h5 g hg
      exact hr.inr
  · obtain ⟨g, css, _, _, _, _, _, h, _⟩ := h
    exact RepL.inr _ _ h
  · rename_i f k l
    obtain ⟨_, h1, h2, h3, h4, _⟩ := h
    exact ⟨h4, by omega⟩
  · rename_i f T l
    obtain ⟨_, h1, h2, h3, _, ⟨w1, S1, css, hr⟩, _⟩ := h
    exact ⟨hr.inr, by omega⟩
  · exact h.elim
theorem EntOk.inr {m : Option Mb} {e : Option AV} (h : EntOk w S m e) : InRO e := by
  unfold EntOk at h
  cases e with
  | none => trivial
  | some x =>
    simp only at h
    obtain ⟨mb, _, h⟩ := h
    exact h.1.inr
/-- What comes in is within its kinds. -/
theorem Spec.inR {f : FuncId} {args : List AV} {e : Option AV} {post : AV → Option AV → Prop} (h : InRL args → InRO e → Spec P f args e post) : Spec P f args e post :=
  fun w S m vs hS hv he => h hv.inr he.inr w S m vs hS hv he
/-- What goes out is within its kinds. -/
theorem Spec.outR {f : FuncId} {args : List AV} {e : Option AV} {post : AV → Option AV → Prop} (h : Spec P f args e (fun r e' => InR r → InRO e' → post r e')) : Spec P f args e post := by
  intro w S m vs hS hv he
  refine (h w S m vs hS hv he).mono ?_
  rintro en w' ⟨r, e', v, S', m', hp, rest⟩
  exact ⟨r, e', v, S', m', hp rest.2.1.inr rest.2.2.1.inr, rest⟩
theorem br_of {c : Bool} {x y : Prop} (h1 : c = true → x) (h2 : c = false → y) : br c x y := by
  cases c with
  | true => exact h1 rfl
  | false => exact h2 rfl
theorem chk_of {c : Bool} {x : Prop} (h1 : c = true) (h2 : x) : chk c x := by subst h1; exact h2
theorem br_iff {c : Bool} {x y : Prop} : br c x y ↔ (c = true → x) ∧ (c = false → y) := by cases c <;> simp [br]
theorem chk_iff {c : Bool} {x : Prop} : chk c x ↔ c = true ∧ x := by cases c <;> simp [chk, br]
end
end Go.Proofs.Ytnioiijcmdnhaaa.V
