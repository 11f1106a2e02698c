/-
  Calls: what a function promises ('Spec'), and how the evaluator uses it. Plain theorems; no function of the program is named here.
-/
import Derived.Test.YtnioiijcmdnhaaaVMem6
set_option linter.all false
namespace Go.Proofs.Ytnioiijcmdnhaaa.V
open Go Go.RowKit

def blkOf (m : Option Mb) (b : Nat) : Prop := ∃ mb, m = some mb ∧ mb.g = some b
/-- Memory that is handed over. -/
def EntOk (w : World) (S : Nat → Prop) (m : Option Mb) : Option AV → Prop
  | none => m = none
  | some e => ∃ mb, m = some mb ∧ EntR w S (fun _ => none) e mb ∧ ∀ g, mb.g = some g → ¬ S g
/-- What a function promises: of arguments that stand for 'args' (and memory 'e' of the caller's) it returns what stands for some r (and memory e') with 'post'. -/
def Spec (P : Program) (f : FuncId) (args : List AV) (e : Option AV) (post : AV → Option AV → Prop) : Prop :=
  ∀ (w : World) (S : Nat → Prop) (m : Option Mb) (vs : List Value), (∀ b, S b → b < w.heap.size) → RepVL w S (s1 m) args vs → EntOk w S m e →
    Calls P f vs.toArray w fun en w' => ∃ r e' v S' m', post r e' ∧ en = .returned v ∧ RepV w' S' (s1 m') r v ∧ EntOk w' S' m' e' ∧ (∀ b, S b → S' b) ∧ (∀ b, S' b → b < w'.heap.size ∧ (S b ∨ w.heap.size ≤ b ∨ blkOf m b)) ∧
      (∀ g, blkOf m' g → blkOf m g ∨ w.heap.size ≤ g) ∧ ((∃ t l, e = some (.box t l)) → m' = m) ∧ Fr (blkOf m) w w'
def OOk (P : Program) (C : Oracle) : Prop := ∀ f args e post, C f args e post → Spec P f args e post
/-- What an operation does, whatever it gives: it ends in a state of which some s' with k s' holds. -/
def DoesK (P : Program) (n : Nat) (F0 : Fx) (w0 : World) (σ : Sg) (a : Act) (w : World) (dst : Option Tmp) (op : Op) (M : Nat → Prop) (k : AS → Prop) : Prop :=
  ∀ (o : Oper) (K : Act → World → Prop) (Q : Exit → Act → World → Prop), o.op = op → o.dst = dst →
    (∀ s' a' w' σ' S', k s' → Rel n F0 w0 σ' S' s' a' w' → Fr M w w' → (∀ id, dst ≠ some id → σ' id = σ id) → K a' w') → o.wp P a w K Q

section
variable {P : Program} {Γ : TEnv} {n : Nat} {F0 : Fx} {w0 w w' : World} {σ σ' : Sg} {S S' : Nat → Prop} {s s' : AS} {a : Act}

/-! ### the form between functions -/
mutual
theorem canon_rep : ∀ (sh : Shp) (x z : AV) (cs : List Value), canon sh x = some z → Rep w S σ x cs → Rep w S σ z cs ∧ True := by
  intro sh x z cs h hx
  cases sh with
  | s =>
    cases x with
    | bool b => simp only [canon] at h; cases h; exact ⟨hx, trivial⟩
    | int k m => simp only [canon] at h; cases h; exact ⟨hx, trivial⟩
    | str l => simp only [canon] at h; cases h; exact ⟨hx, trivial⟩
    | _ => simp [canon] at h
  | i k =>
    cases x with
    | nil =>
      simp only [canon] at h
      cases h
      simp only [Rep] at hx ⊢
      exact ⟨⟨none, 0, hx, ⟨Nat.le_refl _, Nat.zero_le _, by simp, Row.nil⟩, by simp⟩, trivial⟩
    | ints f k' l =>
      simp only [canon] at h
      cases hk : kbeq k k' with
      | false => rw [hk] at h; cases h
      | true =>
        have := kbeq_true hk
        subst this
        rw [hk] at h
        cases h
        simp only [Rep] at hx ⊢
        obtain ⟨A, c, e, h1, _⟩ := hx
        exact ⟨⟨A, c, e, h1, by simp⟩, trivial⟩
    | _ => simp [canon] at h
  | r T =>
    cases x with
    | nil =>
      simp only [canon] at h
      cases h
      simp only [Rep] at hx ⊢
      exact ⟨⟨none, 0, [], hx, Nat.le_refl _, Nat.zero_le _, by simp, trivial, Row.nil⟩, trivial⟩
    | rs f T' l =>
      simp only [canon] at h
      cases hk : Nat.beq T T' with
      | false => rw [hk] at h; cases h
      | true =>
        have := beq_true hk
        subst this
        rw [hk] at h
        cases h
        simp only [Rep] at hx ⊢
        obtain ⟨A, c, css, e, h1, h2, _, h3, h4⟩ := hx
        exact ⟨⟨A, c, css, e, h1, h2, by simp, h3, h4⟩, trivial⟩
    | _ => simp [canon] at h
  | a ss =>
    cases x with
    | agg l =>
      simp only [canon] at h
      cases hl : canonL ss l with
      | none => rw [hl] at h; cases h
      | some l' =>
        rw [hl] at h
        cases h
        simp only [Rep] at hx ⊢
        obtain ⟨css, h1, h2⟩ := hx
        exact ⟨⟨css, canonL_rep ss l l' css hl h1, h2⟩, trivial⟩
    | _ => simp [canon] at h
  | li t k => cases x <;> simp [canon] at h
  | lr t T => cases x <;> simp [canon] at h
  | p =>
    cases x with
    | top => simp only [canon] at h; cases h; exact ⟨hx, trivial⟩
    | _ => simp [canon] at h
  | f =>
    cases x with
    | fn g c => simp only [canon] at h; cases h; exact ⟨hx, trivial⟩
    | _ => simp [canon] at h
theorem canonL_rep : ∀ (ss : List Shp) (l l' : List AV) (css : List (List Value)), canonL ss l = some l' → RepL w S σ l css → RepL w S σ l' css := by
  intro ss l l' css h hx
  cases ss with
  | nil =>
    cases l with
    | nil => simp only [canonL] at h; cases h; exact hx
    | cons x l => simp [canonL] at h
  | cons sh ss =>
    cases l with
    | nil => simp [canonL] at h
    | cons x l =>
      simp only [canonL] at h
      cases hc : canon sh x with
      | none => rw [hc] at h; cases h
      | some y =>
        rw [hc] at h
        simp only at h
        cases hl : canonL ss l with
        | none => rw [hl] at h; cases h
        | some l2 =>
          rw [hl] at h
          cases h
          simp only [RepL] at hx ⊢
          obtain ⟨cs, css', e, h1, h2⟩ := hx
          exact ⟨cs, css', e, (canon_rep sh x y cs hc h1).1, canonL_rep ss l l2 css' hl h2⟩
end
theorem canon_ok {sh : Shp} {x z : AV} {v : Value} (h : canon sh x = some z) (hx : RepV w S σ x v) : RepV0 w S σ z v := by
  cases x with
  | agg l =>
    cases sh with
    | a ss =>
      simp only [RepV, RepV0] at hx
      obtain ⟨cs, e, hr⟩ := hx
      have := (canon_rep _ _ z cs h hr).1
      simp only [canon] at h
      cases hl : canonL ss l with
      | none => rw [hl] at h; cases h
      | some l' => rw [hl] at h; cases h; simp only [RepV0]; exact ⟨cs, e, this⟩
    | _ => simp [canon] at h
  | tup l => cases sh <;> simp [canon] at h
  | undef => cases sh <;> simp [canon] at h
  | _ =>
    have := (canon_rep (w := w) (S := S) (σ := σ) sh _ z [v] h hx).1
    cases z with
    | agg l' => cases sh <;> simp [canon] at h <;> (try split at h) <;> (try cases h)
    | _ => exact this

theorem plain_ok' {k : AS → AV → Prop} : ∀ (f : Nat) {s : AS} {S : Nat → Prop} {x : AV} {v : Value}, Rel n F0 w0 σ S s a w → RepV w S σ x v → plain s x k f →
    ∃ s' x' S', k s' x' ∧ Rel n F0 w0 σ S' s' a w ∧ RepV w S' σ x' v ∧ refAV x' = none ∧ (∀ b, S b → S' b) ∧ (∀ id e, get s'.h id = some e → ∃ e0, get s.h id = some e0)
  | 0, s, S, x, v, _, _, h => by simp [plain] at h
  | f + 1, s, S, x, v, hr, hx, h => by
    simp only [plain] at h
    cases hx1 : refAV x with
    | none => rw [hx1] at h; exact ⟨s, x, S, h, hr, hx, hx1, fun _ h => h, fun id e he => ⟨e, he⟩⟩
    | some id =>
      rw [hx1] at h
      simp only at h
      cases he : get s.h id with
      | none => rw [he] at h; simp at h
      | some e =>
        rw [he] at h
        obtain ⟨m, hm, hen⟩ := hr.ents id e he
        have hS : ∀ b, S b → (S b ∨ m.g = some b) := fun b hb => .inl hb
        have hg : ∀ g, m.g = some g → (S g ∨ m.g = some g) := fun g hg => .inr hg
        have hsub : ∀ e1 i y, get (s.frz id e1).h i = some y → ∃ y0, get s.h i = some y0 := by
          intro e1 i y hy
          simp only [AS.frz, get_emap, get_del] at hy
          by_cases hd : id = i
          · rw [if_pos hd] at hy; cases hy
          · rw [if_neg hd] at hy
            cases h0 : get s.h i with
            | none => rw [h0] at hy; cases hy
            | some y0 => exact ⟨y0, rfl⟩
        cases e with
        | lini t kk l =>
          simp only at h
          obtain ⟨s', x', S', h1, h2, h3, h4, h5, h6⟩ := plain_ok' f (hr.frz he hm (.inl ⟨t, kk, l, rfl⟩)) (RepV.frz hm hen (.inl ⟨t, kk, l, rfl⟩) hS hg hx) h
          exact ⟨s', x', S', h1, h2, h3, h4, fun b hb => h5 b (.inl hb), fun i y hy => by obtain ⟨y1, hy1⟩ := h6 i y hy; exact hsub _ i y1 hy1⟩
        | linr t T l =>
          simp only at h
          obtain ⟨s', x', S', h1, h2, h3, h4, h5, h6⟩ := plain_ok' f (hr.frz he hm (.inr ⟨t, T, l, rfl⟩)) (RepV.frz hm hen (.inr ⟨t, T, l, rfl⟩) hS hg hx) h
          exact ⟨s', x', S', h1, h2, h3, h4, fun b hb => h5 b (.inl hb), fun i y hy => by obtain ⟨y1, hy1⟩ := h6 i y hy; exact hsub _ i y1 hy1⟩
        | _ => simp at h
theorem args1_ok : ∀ (ss : List Shp) (l : List AV) {k : AS → List AV → Prop} {s : AS} {S : Nat → Prop} {vs : List Value}, Rel n F0 w0 σ S s a w → vs.length = l.length → (∀ (i : Nat) (x : AV), l[i]? = some x → ∃ v, vs[i]? = some v ∧ RepV w S σ x v) →
    args1 ss l s k → ∃ s' zs S', k s' zs ∧ Rel n F0 w0 σ S' s' a w ∧ RepVL w S' σ zs vs ∧ (∀ b, S b → S' b) ∧ (∀ id e, get s'.h id = some e → ∃ e0, get s.h id = some e0) := by
  intro ss
  induction ss with
  | nil =>
    intro l k s S vs hr hl hv h
    cases l with
    | nil =>
      simp only [args1] at h
      have : vs = [] := List.eq_nil_of_length_eq_zero (by simpa using hl)
      subst this
      exact ⟨s, [], S, h, hr, rfl, fun _ h => h, fun id e he => ⟨e, he⟩⟩
    | cons x l => simp [args1] at h
  | cons sh ss ih =>
    intro l k s S vs hr hl hv h
    cases l with
    | nil => cases sh <;> simp [args1] at h
    | cons x l =>
      cases vs with
      | nil => simp at hl
      | cons v vs =>
        obtain ⟨v', hv', hx⟩ := hv 0 x rfl
        simp only [List.getElem?_cons_zero, Option.some.injEq] at hv'
        subst hv'
        have hrest : ∀ (i : Nat) (y : AV), l[i]? = some y → ∃ u, vs[i]? = some u ∧ RepV w S σ y u := fun i y hy => by
          obtain ⟨u, hu, hru⟩ := hv (i + 1) y (by simpa using hy)
          exact ⟨u, by simpa using hu, hru⟩
        have gen : ∀ (h : plain s x (fun s y => canonK sh y (fun z => args1 ss l s (fun s zs => k s (z :: zs)))) 9),
            ∃ s' zs S', k s' zs ∧ Rel n F0 w0 σ S' s' a w ∧ RepVL w S' σ zs (v :: vs) ∧ (∀ b, S b → S' b) ∧ (∀ id e, get s'.h id = some e → ∃ e0, get s.h id = some e0) := by
          intro h
          obtain ⟨s1, y, S1, h1, h2, h3, h4, h5, h6⟩ := plain_ok' 9 hr hx h
          unfold canonK at h1
          cases hc : canon sh y with
          | none => rw [hc] at h1; cases h1
          | some z =>
            rw [hc] at h1
            obtain ⟨s2, zs, S2, g1, g2, g3, g4, g5⟩ := ih l (vs := vs) h2 (by simpa using hl) (fun i y hy => by obtain ⟨u, hu, hru⟩ := hrest i y hy; exact ⟨u, hu, hru.keep (fun _ _ _ => rfl) h5⟩) h1
            exact ⟨s2, z :: zs, S2, g1, g2, ⟨v, vs, rfl, (canon_ok hc h3).keep (fun _ _ _ => rfl) g4, g3⟩, fun b hb => g4 b (h5 b hb), fun i e he => by obtain ⟨e1, he1⟩ := g5 i e he; exact h6 i e1 he1⟩
        cases sh with
        | p =>
          cases x with
          | ptr id i j =>
            simp only [args1] at h
            obtain ⟨s2, zs, S2, g1, g2, g3, g4, g5⟩ := ih l (vs := vs) hr (by simpa using hl) hrest h
            exact ⟨s2, _, S2, g1, g2, ⟨v, vs, rfl, (show RepV0 w S σ (.ptr id i j) v from hx).keep (fun _ _ _ => rfl) g4, g3⟩, g4, g5⟩
          | _ => exact gen (by simp only [args1] at h; exact h)
        | _ => exact gen (by simp only [args1] at h; exact h)
/-! ### names that mean nothing -/
mutual
theorem Rep.ofNone {σ0 : Sg} (h0 : ∀ i, σ0 i = none) : ∀ (x : AV) (cs : List Value), Rep w S σ0 x cs → Rep w S σ x cs := by
  intro x cs h
  cases x with
  | ownf i => simp only [Rep] at h; obtain ⟨m, h1, _⟩ := h; rw [h0] at h1; cases h1
  | own i o l => simp only [Rep] at h; obtain ⟨m, A, h1, _⟩ := h; rw [h0] at h1; cases h1
  | ptr i o l => simp only [Rep] at h; obtain ⟨m, g, h1, _⟩ := h; rw [h0] at h1; cases h1
  | agg l => simp only [Rep] at h ⊢; obtain ⟨css, h1, h2⟩ := h; exact ⟨css, RepL.ofNone h0 l css h1, h2⟩
  | _ => (simp only [Rep] at h ⊢) <;> exact h
theorem RepL.ofNone {σ0 : Sg} (h0 : ∀ i, σ0 i = none) : ∀ (l : List AV) (css : List (List Value)), RepL w S σ0 l css → RepL w S σ l css := by
  intro l css h
  cases l with
  | nil => simp only [RepL] at h ⊢; exact h
  | cons x l =>
    simp only [RepL] at h ⊢
    obtain ⟨cs, css', e, h1, h2⟩ := h
    exact ⟨cs, css', e, Rep.ofNone h0 x cs h1, RepL.ofNone h0 l css' h2⟩
end
theorem RepV0.ofNone {σ0 : Sg} (h0 : ∀ i, σ0 i = none) {x : AV} {v : Value} (h : RepV0 w S σ0 x v) : RepV0 w S σ x v := by
  cases x with
  | agg l => simp only [RepV0] at h ⊢; obtain ⟨cs, e, h1⟩ := h; exact ⟨cs, e, Rep.ofNone h0 _ _ h1⟩
  | _ => exact Rep.ofNone (σ0 := σ0) h0 _ _ h
theorem RepVL.ofNone {σ0 : Sg} (h0 : ∀ i, σ0 i = none) : ∀ {l : List AV} {vs : List Value}, RepVL w S σ0 l vs → RepVL w S σ l vs
  | [], _, h => h
  | _ :: _, _, ⟨v, vs', e, h1, h2⟩ => ⟨v, vs', e, h1.ofNone h0, RepVL.ofNone h0 h2⟩
theorem RepV.ofNone {σ0 : Sg} (h0 : ∀ i, σ0 i = none) {x : AV} {v : Value} (h : RepV w S σ0 x v) : RepV w S σ x v := by
  cases x with
  | tup l => simp only [RepV] at h ⊢; obtain ⟨vs, e, h1⟩ := h; exact ⟨vs, e, h1.ofNone h0⟩
  | undef => exact h
  | _ => (simp only [RepV] at h ⊢) <;> exact RepV0.ofNone h0 h
theorem EntR.ofNone {σ0 : Sg} (h0 : ∀ i, σ0 i = none) {e : AV} {m : Mb} (h : EntR w S σ0 e m) : EntR w S σ e m := by
  cases e with
  | box t l =>
    simp only [EntR] at h ⊢
    obtain ⟨g, css, h1, h2, h3, h4, h5, h6, h7⟩ := h
    exact ⟨g, css, h1, h2, h3, h4, h5, RepL.ofNone h0 _ _ h6, h7⟩
  | lini t k l => exact h
  | linr t T l => exact h
  | ints f k l => exact h
  | rs f T l => exact h
  | _ => exact h.elim
theorem EntR.free {e : AV} {m : Mb} (hf : entRef e = none) (h : EntR w S σ e m) : EntR w S σ' e m := by
  cases e with
  | box t l =>
    simp only [EntR] at h ⊢
    obtain ⟨g, css, h1, h2, h3, h4, h5, h6, h7⟩ := h
    exact ⟨g, css, h1, h2, h3, h4, h5, RepL.free _ _ hf h6, h7⟩
  | lini t k l => exact h
  | linr t T l => exact h
  | ints f k l => exact h
  | rs f T l => exact h
  | _ => exact h.elim
/-- More memory is known to be read only. -/
theorem Rel.moreS (h : Rel n F0 w0 σ S s a w) (hS : ∀ b, S b → S' b) (hlt : ∀ b, S' b → b < w.heap.size) (hap : ∀ id e m g, get s.h id = some e → σ id = some m → m.g = some g → ¬ S' g) (hsrc : ∀ b, S' b → S b ∨ w0.heap.size ≤ b ∨ F0 b) : Rel n F0 w0 σ S' s a w where
  small := h.small
  sz := h.sz
  defers := h.defers
  slots := fun t y hy => by
    obtain ⟨v, hv, hr⟩ := h.slots t y hy
    exact ⟨v, hv, hr.keep (fun _ _ _ => rfl) hS⟩
  ents := fun i y hy => by
    obtain ⟨m, hm, hr⟩ := h.ents i y hy
    exact ⟨m, hm, hr.keep (fun _ _ _ => rfl) hS fun _ _ => rfl⟩
  inj := h.inj
  apart := hap
  old := h.old
  Sold := hlt
  ent := h.ent
  mono := fun b hb => hS b (h.mono b hb)
  src := fun b hb => by
    rcases hsrc b hb with h1 | h1
    · exact h.src b h1
    · exact .inr h1
  fr := h.fr
theorem Rel.dput (h : Rel n F0 w0 σ S s a w) {d : Option Tmp} (hd : dstOk n d = true) {x : AV} {v : Value} (hx : RepV w S σ x v) : Rel n F0 w0 σ S (s.dst d x) (a.put d v) w := by
  cases d with
  | none => exact h
  | some d => exact h.tput (by simpa [dstOk] using hd) hx
end
section
variable {P : Program} {Γ : TEnv} {n : Nat} {F0 : Fx} {w0 w w' : World} {σ σ' : Sg} {S S' : Nat → Prop} {s s' : AS} {a : Act}
theorem s1_none : ∀ i, s1 none i = none := fun i => by simp [s1]
theorem RepVL.setV {i : Nat} {x : AV} {v : Value} : ∀ {l : List AV} {vs : List Value}, RepVL w S σ l vs → vs[i]? = some v → RepV0 w S σ x v → RepVL w S σ (V.setV l i x) vs := by
  induction i with
  | zero =>
    intro l vs h hv hx
    cases l with
    | nil => simp only [RepVL] at h; subst h; simp at hv
    | cons y l =>
      simp only [RepVL] at h
      obtain ⟨u, vs', rfl, h1, h2⟩ := h
      simp at hv
      subst hv
      exact ⟨u, vs', rfl, hx, h2⟩
  | succ i ih =>
    intro l vs h hv hx
    cases l with
    | nil => simp only [RepVL] at h; subst h; simp at hv
    | cons y l =>
      simp only [RepVL] at h
      obtain ⟨u, vs', rfl, h1, h2⟩ := h
      exact ⟨u, vs', rfl, h1, ih h2 (by simpa using hv) hx⟩
theorem RepVL.refs {i : Nat} {x : AV} {v : Value} (hx : RepV0 w S σ' x v) : ∀ {l : List AV} {vs : List Value}, RepVL w S σ l vs → vs[i]? = some v → refL (V.setV l i .nil) = none → RepVL w S σ' (V.setV l i x) vs := by
  induction i with
  | zero =>
    intro l vs h hv hrf
    cases l with
    | nil => simp only [RepVL] at h; subst h; simp at hv
    | cons y l =>
      simp only [RepVL] at h
      obtain ⟨u, vs', rfl, h1, h2⟩ := h
      simp at hv
      subst hv
      exact ⟨u, vs', rfl, hx, RepVL.free (ref_cons hrf).2 h2⟩
  | succ i ih =>
    intro l vs h hv hrf
    cases l with
    | nil => simp only [RepVL] at h; subst h; simp at hv
    | cons y l =>
      simp only [RepVL] at h
      obtain ⟨u, vs', rfl, h1, h2⟩ := h
      exact ⟨u, vs', rfl, RepV0.free (ref_cons hrf).1 h1, ih h2 (by simpa using hv) (ref_cons hrf).2⟩
theorem run_callOp {o : Oper} {f : FuncId} {args : Array Operand} {ts : Array TypeId} {fn : Func} (hf : P.funcs[f]? = some fn) (hbody : fn.body.isSome = true) (hname : (fn.name == "runtime.NumGoroutine") = false) (ho : o.op = .call { callee := .value (.func f), args := args, argTypes := ts }) :
    (execOp a.eval o).run P w = .ok (.enter f (args.map a.eval)) w := by
  have hb : ¬ fn.body = none := by cases hq : fn.body <;> simp [hq] at hbody ⊢
  have hn : ¬ fn.name = "runtime.NumGoroutine" := by simpa using hname
  simp [execOp, ho, resolve, Deferred.ofValue, Act.eval, invoke, callFunc, hf, hn, hb]
/-- Functions with a body. -/
def FOk (P : Program) (C : Oracle) : Prop := ∀ f args e post, C f args e post → ∃ fn, P.funcs[f]? = some fn ∧ fn.body.isSome = true ∧ (fn.name == "runtime.NumGoroutine") = false
theorem RepL.setj {x y : AV} : ∀ {j : Nat} {l : List AV} {css : List (List Value)}, RepL w S σ l css → V.nth l j = some x → (∀ cs, css[j]? = some cs → Rep w S σ x cs → Rep w S σ y cs) → RepL w S σ (V.setV l j y) css
  | _, [], _, _, h, _ => by simp [V.nth] at h
  | 0, z :: l, css, h, hn, hy => by
    simp only [V.nth, Option.some.injEq] at hn
    subst hn
    simp only [RepL] at h
    obtain ⟨cs, css', rfl, h1, h2⟩ := h
    exact ⟨cs, css', rfl, hy cs rfl h1, h2⟩
  | j + 1, z :: l, css, h, hn, hy => by
    simp only [RepL] at h
    obtain ⟨cs, css', rfl, h1, h2⟩ := h
    exact ⟨cs, css', rfl, h1, RepL.setj h2 hn fun c hc => hy c (by simpa using hc)⟩
theorem RepL.ats {x : AV} : ∀ {j : Nat} {l : List AV} {css : List (List Value)}, RepL w S σ l css → V.nth l j = some x → ∃ cs, css[j]? = some cs ∧ Rep w S σ x cs
  | _, [], _, _, h => by simp [V.nth] at h
  | 0, z :: l, css, h, hn => by
    simp only [V.nth, Option.some.injEq] at hn
    subst hn
    simp only [RepL] at h
    obtain ⟨cs, css', rfl, h1, h2⟩ := h
    exact ⟨cs, rfl, h1⟩
  | j + 1, z :: l, css, h, hn => by
    simp only [RepL] at h
    obtain ⟨cs, css', rfl, h1, h2⟩ := h
    obtain ⟨c, hc, hr⟩ := RepL.ats h2 hn
    exact ⟨c, by simpa using hc, hr⟩
theorem RepL.ones : ∀ {l : List AV} {css : List (List Value)}, RepL w S σ l css → allCell l = true → ∀ cs ∈ css, cs.length = 1
  | [], _, h, _ => by simp only [RepL] at h; subst h; simp
  | x :: l, css, h, ha => by
    simp only [RepL] at h
    obtain ⟨cs, css', rfl, h1, h2⟩ := h
    simp only [allCell] at ha
    cases hx : isCell x with
    | false => rw [hx] at ha; cases ha
    | true =>
      rw [hx] at ha
      intro c hc
      rcases List.mem_cons.1 hc with rfl | hc
      · obtain ⟨v, hv, _⟩ := Rep.cell h1 hx
        rw [hv]
        rfl
      · exact RepL.ones h2 ha c hc
theorem flat_inj {α : Type} : ∀ {a b : List (List α)}, (∀ c ∈ a, c.length = 1) → (∀ c ∈ b, c.length = 1) → a.flatten = b.flatten → a = b
  | [], [], _, _, _ => rfl
  | [], c :: b, _, hb, h => by
    have := hb c (by simp)
    obtain ⟨u, rfl⟩ : ∃ u, c = [u] := by
      match c, this with
      | [u], _ => exact ⟨u, rfl⟩
    simp at h
  | c :: a, [], ha, _, h => by
    have := ha c (by simp)
    obtain ⟨u, rfl⟩ : ∃ u, c = [u] := by
      match c, this with
      | [u], _ => exact ⟨u, rfl⟩
    simp at h
  | c :: a, c' :: b, ha, hb, h => by
    have h1 := ha c (by simp)
    have h2 := hb c' (by simp)
    obtain ⟨u, rfl⟩ : ∃ u, c = [u] := by
      match c, h1 with
      | [u], _ => exact ⟨u, rfl⟩
    obtain ⟨u', rfl⟩ : ∃ u, c' = [u] := by
      match c', h2 with
      | [u], _ => exact ⟨u, rfl⟩
    simp only [List.flatten_cons, List.cons_append, List.nil_append, List.cons.injEq] at h
    obtain ⟨rfl, h⟩ := h
    rw [flat_inj (fun c hc => ha c (List.mem_cons_of_mem _ hc)) (fun c hc => hb c (List.mem_cons_of_mem _ hc)) h]
theorem RepVL.ats {x : AV} : ∀ {i : Nat} {l : List AV} {vs : List Value}, RepVL w S σ l vs → V.nth l i = some x → ∃ v, vs[i]? = some v ∧ RepV0 w S σ x v
  | _, [], _, _, h => by simp [V.nth] at h
  | 0, z :: l, vs, h, hn => by
    simp only [V.nth, Option.some.injEq] at hn
    subst hn
    simp only [RepVL] at h
    obtain ⟨v, vs', rfl, h1, h2⟩ := h
    exact ⟨v, rfl, h1⟩
  | i + 1, z :: l, vs, h, hn => by
    simp only [RepVL] at h
    obtain ⟨v, vs', rfl, h1, h2⟩ := h
    obtain ⟨u, hu, hr⟩ := RepVL.ats h2 hn
    exact ⟨u, by simpa using hu, hr⟩
theorem lnCall_ok {C : Oracle} (hC : OOk P C) (hF : FOk P C) (hr : Rel n F0 w0 σ S s a w) {s2 : AS} {mb : Mb} (hs2 : ∀ w', Fr (blkOf (some mb)) w w' → Rel n F0 w0 σ S s2 a w')
    (hsep : ∀ i y m' g, get s2.h i = some y → σ i = some m' → mb.g = some g → m'.g ≠ some g) (hold : ∀ g, mb.g = some g → g < w0.heap.size → F0 g) (hmS : ∀ g, mb.g = some g → ¬ S g)
    {e : AV} (hen : EntR w S (fun _ => none) e mb) {d : Option Tmp} (hd : dstOk n d = true) {f : FuncId} {args : Array Operand} {ts : Array TypeId} {vs : List Value} (hargs : args.map a.eval = vs.toArray) {i j : Nat}
    {css0 : List (List Value)} (hvi : vs[i]? = some (.agg css0.flatten.toArray)) (h1s : ∀ c ∈ css0, c.length = 1) (hcj : css0[j]? = some [.slice (mb.addr 0) mb.n mb.cap])
    {zs : List AV} (hz : RepVL w S σ zs vs) {M : Nat → Prop} (hM : ∀ b, blkOf (some mb) b → M b) {k : AS → Prop} (h : lnCall C s2 d f i j e zs k) :
    DoesK P n F0 w0 σ a w d (.call { callee := .value (.func f), args := args, argTypes := ts }) M k := by
  unfold lnCall at h
  split at h
  · rename_i l d hn hrf
    cases hac : allCell l with
    | false => rw [hac] at h; cases h
    | true =>
      rw [hac] at h
      simp only at h
      obtain ⟨v, hv, hrv⟩ := RepVL.ats (RepVL.free (σ' := s1 (some mb)) hrf hz) hn
      rw [hvi] at hv
      cases hv
      simp only [RepV0, Rep] at hrv
      obtain ⟨cs, hcs, css, hl, hfl⟩ := hrv
      have hcc : css0.flatten = css.flatten := by
        have := congrArg Value.cells hcs
        have h2 : css0.flatten.toArray = cs.toArray := by
          injection hcs
        have h3 := congrArg Array.toList h2
        simpa [hfl] using h3
      have hcss := flat_inj h1s (RepL.ones hl hac) hcc
      subst hcss
      have hargsR : RepVL w S (s1 (some mb)) (V.setV zs i (.agg (V.setV l j (.ownf E0)))) vs := by
        refine RepVL.setV (RepVL.free hrf hz) hvi ?_
        simp only [RepV0, Rep]
        obtain ⟨x, hx⟩ : ∃ x, V.nth l j = some x := by
          rw [nth_eq]
          have hlen : l.length = css0.length := by
            clear hcj hn h hac hcs hfl hcc h1s hvi
            induction l generalizing css0 with
            | nil => simp only [RepL] at hl; subst hl; rfl
            | cons y l ih => simp only [RepL] at hl; obtain ⟨c, css', rfl, _, h2⟩ := hl; simp [ih h2]
          have hj := (List.getElem?_eq_some_iff.1 hcj).1
          exact ⟨l[j]'(by omega), List.getElem?_eq_getElem (by omega)⟩
        refine ⟨_, rfl, css0, RepL.setj hl hx fun c hc _ => ?_, rfl⟩
        rw [hcj] at hc
        cases hc
        simp only [Rep]
        exact ⟨mb, by simp [s1], rfl⟩
      obtain ⟨fn, hfn, hb, hnm⟩ := hF _ _ _ _ h
      have hspec := hC _ _ _ _ h w S (some mb) vs hr.Sold hargsR ⟨mb, rfl, hen, hmS⟩
      have r0 := hs2 w (Fr.refl _ _)
      intro o K Q ho hod hK
      unfold Oper.wp
      rw [run_callOp hfn hb hnm ho]
      simp only [Oper.upon]
      rw [hargs]
      refine hspec.mono fun en w' ⟨rv, e', v, S', m', hpost, he', hv, hem, hS1, hS2, hg2, _, hfr⟩ => ?_
      subst he'
      simp only
      rw [hod]
      have lt : ∀ id e m g, get s2.h id = some e → σ id = some m → m.g = some g → g < w.heap.size := fun id e m g h1 h2 h3 => by
        obtain ⟨m2, hm2, hr2⟩ := r0.ents id e h1
        rw [h2] at hm2
        cases hm2
        exact hr2.lt h3
      have hbk : ∀ b, blkOf (some mb) b → mb.g = some b := fun b ⟨m2, h1, h2⟩ => by cases h1; exact h2
      have q2 := (hs2 w' hfr).moreS (S' := S') hS1 (fun b hb => (hS2 b hb).1) (fun id e m g h1 h2 h3 hs => by
        rcases (hS2 g hs).2 with h4 | h4 | h4
        · exact r0.apart id e m g h1 h2 h3 h4
        · have := lt id e m g h1 h2 h3; omega
        · exact hsep id e m g h1 h2 (hbk g h4) h3) (fun b hb => by
        rcases (hS2 b hb).2 with h4 | h4 | h4
        · exact .inl h4
        · exact .inr (.inl (Nat.le_trans hr.fr.size h4))
        · rcases Nat.lt_or_ge b w0.heap.size with hlt | hge
          · exact .inr (.inr (hold b (hbk b h4) hlt))
          · exact .inr (.inl hge))
      cases e' with
      | none => simp at hpost
      | some e2' =>
        simp only at hpost
        cases hre : entRef e2' with
        | some _ => rw [hre] at hpost; simp at hpost
        | none =>
          rw [hre] at hpost
          simp only at hpost
          obtain ⟨mb', rfl, hen', hap⟩ := hem
          have hdn : d < n := by simpa [dstOk] using hd
          have hsm := hr.small
          have q3 := Rel.add (d := d) (m := mb') q2 (Nat.ne_of_lt (Nat.lt_of_lt_of_le hdn hsm)) (EntR.ofNone (fun _ => rfl) hen') (fun g hg => ⟨hap g hg, fun hlt => by
            rcases hg2 g ⟨mb', rfl, hg⟩ with h4 | h4
            · exact hold g (hbk g h4) hlt
            · have := hr.fr.size; omega, fun i y m2 h1 _ h2 h3 => by
            rcases hg2 g ⟨mb', rfl, hg⟩ with h4 | h4
            · exact hsep i y m2 g h1 h2 (hbk g h4) h3
            · have := lt i y m2 g h1 h2 h3; omega⟩)
          exact hK _ _ _ (upd σ d mb') S' hpost (q3.tput (by simpa [dstOk] using hd) (RepV.ren d (by simp [upd]) hv)) (hfr.weak hM) fun id hid => by simp [upd]; intro e; exact absurd (by rw [e]) hid
  · cases h
theorem lnF_ok {C : Oracle} (hC : OOk P C) (hF : FOk P C) (hr : Rel n F0 w0 σ S s a w) {d : Option Tmp} (hd : dstOk n d = true) {f : FuncId} {args : Array Operand} {ts : Array TypeId} {vs : List Value} (hargs : args.map a.eval = vs.toArray) {xs : List AV} (e2 : vs.length = xs.length)
    (e3 : ∀ (i : Nat) (x : AV), xs[i]? = some x → ∃ v, vs[i]? = some v ∧ RepV w S σ x v) {i j : Nat} {sh : Shp} {shps : List Shp} {M : Nat → Prop} (hM : ∀ l id, V.nth xs i = some (.agg l) → V.nth l j = some (.ownf id) → ∀ b, OfId σ id b → M b) {k : AS → Prop} (h : lnF C shps s d f xs i j sh k) :
    DoesK P n F0 w0 σ a w d (.call { callee := .value (.func f), args := args, argTypes := ts }) M k := by
  unfold lnF at h
  split at h
  · rename_i l hn
    cases hac : allCell l with
    | false => rw [hac] at h; cases h
    | true =>
      rw [hac] at h
      simp only at h
      obtain ⟨v, hv, hrv⟩ := e3 i (.agg l) (by rw [nth_eq] at hn; exact hn)
      simp only [RepV, RepV0, Rep] at hrv
      obtain ⟨cs, rfl, css, hl, rfl⟩ := hrv
      have h1s := RepL.ones hl hac
      have hx2 : ∀ x, V.nth l j = some x → (∀ cs, Rep w S σ x cs → Rep w S σ .top cs) → ∀ (i2 : Nat) (y : AV), (setV xs i (.agg (setV l j .top)))[i2]? = some y → ∃ v, vs[i2]? = some v ∧ RepV w S σ y v := by
        intro x hx hxt i2 y hy
        rw [setV_eq] at hy
        by_cases hi : i = i2
        · subst hi
          rw [List.getElem?_set_self (by rw [nth_eq] at hn; exact (List.getElem?_eq_some_iff.1 hn).1)] at hy
          cases hy
          refine ⟨_, hv, ?_⟩
          simp only [RepV, RepV0, Rep]
          exact ⟨_, rfl, css, RepL.setj hl hx fun c _ hc => hxt c hc, rfl⟩
        · rw [List.getElem?_set_ne hi] at hy
          exact e3 i2 y hy
      have hlen : vs.length = (setV xs i (.agg (setV l j .top))).length := by rw [setV_eq, List.length_set]; exact e2
      split at h
      · rename_i hnj
        cases hne : nilEnt sh with
        | none => rw [hne] at h; cases h
        | some e =>
          rw [hne] at h
          simp only at h
          obtain ⟨s1', zs, S1, g1, g2, g3, g4, g5⟩ := args1_ok shps _ hr hlen (hx2 _ hnj (fun c hc => by simp only [Rep] at hc ⊢; exact ⟨_, hc, rfl⟩)) h
          obtain ⟨c, hc, hcr⟩ := hl.ats hnj
          simp only [Rep] at hcr
          subst hcr
          have hnb : ∀ (es : Nat) b, ¬ blkOf (some ⟨none, es, 0, 0⟩) b := fun es b ⟨m2, h1, h2⟩ => by cases h1; cases h2
          have gen : ∀ es, EntR w S1 (fun _ => none) e ⟨none, es, 0, 0⟩ → DoesK P n F0 w0 σ a w d (.call { callee := .value (.func f), args := args, argTypes := ts }) M k := fun es hen =>
            lnCall_ok (mb := ⟨none, es, 0, 0⟩) hC hF g2 (s2 := s1') (fun w' hfr => g2.chg (id := none) (hfr.weak fun b hb => (hnb es b hb).elim)) (fun _ _ _ g _ _ h => by cases h) (fun g h => by cases h) (fun g h => by cases h) hen hd hargs hv h1s hc g3 (fun b hb => (hnb es b hb).elim) g1
          cases sh with
          | li t kk => simp only [nilEnt] at hne; cases hne; exact gen 1 (by simp [EntR])
          | lr t T => simp only [nilEnt] at hne; cases hne; exact gen (esz T) (by simp [EntR])
          | _ => simp [nilEnt] at hne
      · rename_i id hnj
        obtain ⟨s1', zs, S1, g1, g2, g3, g4, g5⟩ := args1_ok shps _ hr hlen (hx2 _ hnj (fun c hc => by simp only [Rep] at hc ⊢; obtain ⟨m, _, hc⟩ := hc; exact ⟨_, hc, rfl⟩)) h
        unfold lnRow at g1
        cases he : get s1'.h id with
        | none => rw [he] at g1; cases g1
        | some e =>
          rw [he] at g1
          simp only at g1
          cases hre : entRef e with
          | some _ => rw [hre] at g1; cases g1
          | none =>
            rw [hre] at g1
            simp only at g1
            obtain ⟨mb, hmb, hen⟩ := g2.ents id e he
            obtain ⟨c, hc, hcr⟩ := hl.ats hnj
            simp only [Rep] at hcr
            obtain ⟨mb', hmb', hcr⟩ := hcr
            rw [hmb] at hmb'
            cases hmb'
            subst hcr
            have hbk : ∀ b, blkOf (some mb) b → mb.g = some b := fun b ⟨m2, h1, h2⟩ => by cases h1; exact h2
            have key : ∀ i2 y, get (s1'.kill id).h i2 = some y → i2 ≠ id ∧ ∃ y0, get s1'.h i2 = some y0 := fun i2 y hy => by
              simp only [AS.kill, get_emap, get_del] at hy
              by_cases hq : id = i2
              · rw [if_pos hq] at hy; cases hy
              · rw [if_neg hq] at hy
                cases h0 : get s1'.h i2 with
                | none => rw [h0] at hy; cases hy
                | some y0 => exact ⟨Ne.symm hq, y0, rfl⟩
            refine lnCall_ok (mb := mb) hC hF g2 (s2 := s1'.kill id) (fun w' hfr => ?_) (fun i2 y m' g h1 h2 h3 h4 => ?_) (fun g hg => g2.old id e mb g he hmb hg) (fun g hg => g2.apart id e mb g he hmb hg) (EntR.free hre hen) hd hargs hv h1s hc g3 (fun b hb => hM l id hn hnj b ⟨mb, hmb, hbk b hb⟩) g1
            · have q1 := g2.chg (id := some id) (hfr.weak fun b hb => ⟨id, e, mb, rfl, he, hmb, hbk b hb⟩)
              have q2 := q1.kill (σ' := σ) id (fun _ _ => rfl)
              exact q2.less (s' := s1'.kill id) (fun t x hx => by simpa [AS.kill] using hx) (fun t x hx => by
                simp only [AS.kill, delO, get_emap, del_del] at hx ⊢
                exact hx)
            · obtain ⟨hne, y0, hy0⟩ := key i2 y h1
              exact hne (g2.inj i2 id y0 e m' mb g hy0 he h2 hmb h4 h3)
      · cases h
  · cases h
theorem call_ok {C : Oracle} (hC : OOk P C) (hF : FOk P C) (hr : Rel n F0 w0 σ S s a w) {d : Option Tmp} (hd : dstOk n d = true) {f : FuncId} {args : Array Operand} {ts : Array TypeId} {pm : FuncId → Option Pm} {xs : List AV} (hxs : avalL s args.toList = some xs) {k : AS → Prop} (h : callF C pm s d f xs k) :
    DoesK P n F0 w0 σ a w d (.call { callee := .value (.func f), args := args, argTypes := ts }) (fun q => ∃ id ∈ modsCall pm f xs, OfId σ id q) k := by
  obtain ⟨vs, e1, e2, e3⟩ := avalL_ok hr hxs
  have hargs : args.map a.eval = vs.toArray := by
    apply Array.ext'
    rw [Array.toList_map, e1]
  unfold callF at h
  cases hp : pm f with
  | none => rw [hp] at h; cases h
  | some m =>
    rw [hp] at h
    simp only at h
    cases hent : m.ent with
    | no =>
      rw [hent] at h
      simp only at h
      obtain ⟨s1', zs, S1, g1, g2, g3, g4, g5⟩ := args1_ok m.shps xs hr e2 e3 h
      cases hrf : refL zs with
      | some _ => rw [hrf] at g1; cases g1
      | none =>
        rw [hrf] at g1
        simp only at g1
        obtain ⟨fn, hfn, hb, hnm⟩ := hF _ _ _ _ g1
        have hspec := hC _ _ _ _ g1 w S1 none vs g2.Sold (RepVL.free hrf g3) rfl
        have hM : ∀ (M : Nat → Prop) w', Fr (blkOf none) w w' → Fr M w w' := fun M w' h => h.weak fun b ⟨mb, hb, _⟩ => by cases hb
        intro o K Q ho hod hK
        unfold Oper.wp
        rw [run_callOp hfn hb hnm ho]
        simp only [Oper.upon]
        rw [hargs]
        refine hspec.mono fun en w' ⟨rv, e', v, S', m', hpost, he, hv, hem, hS1, hS2, hg2, _, hfr⟩ => ?_
        subst he
        simp only
        rw [hod]
        have q1 := g2.chg (id := none) (hfr.weak fun b ⟨mb, hb, _⟩ => by cases hb)
        have lt : ∀ id e m g, get s1'.h id = some e → σ id = some m → m.g = some g → g < w.heap.size := fun id e m g h1 h2 h3 => by
          obtain ⟨m2, hm2, hr2⟩ := g2.ents id e h1
          rw [h2] at hm2
          cases hm2
          exact hr2.lt h3
        have q2 := q1.moreS (S' := S') hS1 (fun b hb => (hS2 b hb).1) (fun id e m g h1 h2 h3 hs => by
          rcases (hS2 g hs).2 with h4 | h4 | ⟨mb, h4, _⟩
          · exact g2.apart id e m g h1 h2 h3 h4
          · have := lt id e m g h1 h2 h3; omega
          · cases h4) (fun b hb => by
          rcases (hS2 b hb).2 with h4 | h4 | ⟨mb, h4, _⟩
          · exact .inl h4
          · exact .inr (.inl (Nat.le_trans g2.fr.size h4))
          · cases h4)
        cases e' with
        | none =>
          simp only at hpost
          have hm' : m' = none := hem
          subst hm'
          exact hK _ _ _ σ S' hpost (q2.dput hd (RepV.ofNone s1_none hv)) (hM _ _ hfr) fun _ _ => rfl
        | some e2' =>
          simp only at hpost
          cases d with
          | none => simp at hpost
          | some d =>
            cases hre : entRef e2' with
            | some _ => rw [hre] at hpost; simp at hpost
            | none =>
              rw [hre] at hpost
              simp only at hpost
              obtain ⟨mb, rfl, hen, hap⟩ := hem
              have hdn : d < n := by simpa [dstOk] using hd
              have hsm := hr.small
              have q3 := Rel.add (d := d) (m := mb) q2 (Nat.ne_of_lt (Nat.lt_of_lt_of_le hdn hsm)) (EntR.ofNone (fun _ => rfl) hen) (fun g hg => ⟨hap g hg, fun hlt => by
                rcases hg2 g ⟨mb, rfl, hg⟩ with ⟨_, h4, _⟩ | h4
                · cases h4
                · have := g2.fr.size; omega, fun i y m2 h1 _ h2 h3 => by
                rcases hg2 g ⟨mb, rfl, hg⟩ with ⟨_, h4, _⟩ | h4
                · cases h4
                · have := lt i y m2 g h1 h2 h3; omega⟩)
              exact hK _ _ _ (upd σ d mb) S' hpost (q3.tput (by simpa [dstOk] using hd) (RepV.ren d (by simp [upd]) hv)) (hM _ _ hfr) fun id hid => by simp [upd]; intro e; exact absurd (by rw [e]) hid
    | bx i =>
      rw [hent] at h
      simp only at h
      cases hn : nth xs i with
      | none => rw [hn] at h; simp at h
      | some xi =>
        rw [hn] at h
        split at h
        · rename_i id heq
          cases heq
          obtain ⟨s1', zs, S1, g1, g2, g3, g4, g5⟩ := args1_ok m.shps xs hr e2 e3 h
          cases he : get s1'.h id with
          | none => rw [he] at g1; simp at g1
          | some en =>
            rw [he] at g1
            cases en with
            | box t l =>
              simp only at g1
              cases hrl : refL l with
              | some _ => rw [hrl] at g1; simp at g1
              | none =>
                cases hrz : refL (setV zs i .nil) with
                | some _ => rw [hrl, hrz] at g1; simp at g1
                | none =>
                  cases hip : isPtr id (nth zs i) with
                  | false => rw [hrl, hrz, hip] at g1; simp at g1
                  | true =>
                    rw [hrl, hrz, hip] at g1
                    simp only at g1
                    obtain ⟨mb, hmb, hen⟩ := g2.ents id _ he
                    obtain ⟨fn, hfn, hb, hnm⟩ := hF _ _ _ _ g1
                    -- the pointer's value
                    obtain ⟨vp, hvp, hrp⟩ := e3 i (.ptr id 0 0) (by rw [nth_eq] at hn; exact hn)
                    simp only [RepV, RepV0, Rep, List.cons.injEq, and_true] at hrp
                    obtain ⟨mb', g, hmb', hg, hve⟩ := hrp
                    rw [hmb] at hmb'
                    cases hmb'
                    have hargsR : RepVL w S1 (s1 (some mb)) (setV zs i (.ptr E0 0 0)) vs := RepVL.refs (x := .ptr E0 0 0) (v := vp) (by
                      simp only [RepV0, Rep]
                      exact ⟨mb, g, by simp [s1], hg, by rw [hve]⟩) g3 hvp hrz
                    have hspec := hC _ _ _ _ g1 w S1 (some mb) vs g2.Sold hargsR ⟨mb, rfl, EntR.free hrl hen, fun g' hg' => g2.apart id _ mb g' he hmb hg'⟩
                    intro o K Q ho hod hK
                    unfold Oper.wp
                    rw [run_callOp hfn hb hnm ho]
                    simp only [Oper.upon]
                    rw [hargs]
                    refine hspec.mono fun en w' ⟨rv, e', v, S', m', hpost, he', hv, hem, hS1, hS2, hg2, hbx, hfr⟩ => ?_
                    subst he'
                    simp only
                    rw [hod]
                    have hm' := hbx ⟨_, _, rfl⟩
                    subst hm'
                    cases e' with
                    | none => simp at hpost
                    | some en' =>
                      cases en' with
                      | box t' l' =>
                        simp only at hpost
                        cases hrl' : refL l' with
                        | some _ => rw [hrl'] at hpost; simp at hpost
                        | none =>
                          cases htt : Nat.beq t t' with
                          | false => rw [hrl', htt] at hpost; simp at hpost
                          | true =>
                            cases hcc : Nat.beq (cnt l) (cnt l') with
                            | false => rw [hrl', htt, hcc] at hpost; simp at hpost
                            | true =>
                              have := beq_true htt
                              subst this
                              rw [hrl', htt, hcc] at hpost
                              simp only at hpost
                              obtain ⟨mb2, hmb2, hen2, hap2⟩ := hem
                              cases hmb2
                              have hbk : ∀ b, blkOf (some mb) b → mb.g = some b := fun b ⟨m2, h1, h2⟩ => by cases h1; exact h2
                              have q1 := g2.chg (id := some id) (hfr.weak fun b hb => ⟨id, _, mb, rfl, he, hmb, hbk b hb⟩)
                              have hdel : ∀ i2 y, get (del s1'.h id) i2 = some y → get s1'.h i2 = some y ∧ i2 ≠ id := fun i2 y hy => by
                                rw [get_del] at hy
                                by_cases hq : id = i2
                                · rw [if_pos hq] at hy; cases hy
                                · rw [if_neg hq] at hy; exact ⟨hy, Ne.symm hq⟩
                              have q2 := q1.moreS (S' := S') hS1 (fun b hb => (hS2 b hb).1) (fun i2 y m2 g2' h1 h2 h3 hs => by
                                obtain ⟨h1', hne⟩ := hdel i2 y h1
                                rcases (hS2 g2' hs).2 with h4 | h4 | h4
                                · exact g2.apart i2 y m2 g2' h1' h2 h3 h4
                                · obtain ⟨m3, hm3, hr3⟩ := g2.ents i2 y h1'
                                  rw [h2] at hm3
                                  cases hm3
                                  have := hr3.lt h3
                                  omega
                                · exact hne (g2.inj i2 id y _ m2 mb g2' h1' he h2 hmb h3 (hbk _ h4))) (fun b hb => by
                                rcases (hS2 b hb).2 with h4 | h4 | h4
                                · exact .inl h4
                                · exact .inr (.inl (Nat.le_trans g2.fr.size h4))
                                · rcases Nat.lt_or_ge b w0.heap.size with hlt | hge
                                  · exact .inr (.inr (g2.old id _ mb b he hmb (hbk _ h4) hlt))
                                  · exact .inr (.inl hge))
                              have q3 := Rel.wrote (s := s1') q2 (fun e => by subst e; exact g2.ent _ he) hmb (EntR.ofNone (fun _ => rfl) hen2) (fun g' hg' => ⟨hap2 g' hg', g2.old id _ mb g' he hmb hg', fun i2 y m2 h1 hne h2 h3 => hne (g2.inj i2 id y _ m2 mb g' h1 he h2 hmb h3 hg')⟩)
                              refine hK _ _ _ σ S' hpost (q3.dput hd (RepV.ren id hmb hv)) (hfr.weak fun b hb => ⟨id, ?_, mb, hmb, hbk b hb⟩) fun _ _ => rfl
                              simp [modsCall, hp, hent, hn]
                      | _ => simp at hpost
            | _ => simp at g1
        · cases h
    | ln i j sh =>
      rw [hent] at h
      simp only at h
      refine lnF_ok hC hF hr hd hargs e2 e3 (fun l id h1 h2 b hb => ⟨id, ?_, hb⟩) h
      simp [modsCall, hp, hent, h1, h2]
/-! ### function values -/
theorem appV_eq : ∀ (l m : List AV), appV l m = l ++ m
  | [], m => rfl
  | x :: l, m => by simp [appV, appV_eq l m]
theorem RepVL.app : ∀ {l m : List AV} {vs us : List Value}, RepVL w S σ l vs → RepVL w S σ m us → RepVL w S σ (appV l m) (vs ++ us)
  | [], m, vs, us, h, h2 => by simp only [RepVL] at h; subst h; exact h2
  | x :: l, m, vs, us, ⟨v, vs', e, h1, h3⟩, h2 => ⟨v, vs' ++ us, by rw [e]; rfl, h1, RepVL.app h3 h2⟩
theorem run_callFn {o : Oper} {f : FuncId} {t : Tmp} {cap : List Value} {args : Array Operand} {ts : Array TypeId} {fn : Func} (hf : P.funcs[f]? = some fn) (hbody : fn.body.isSome = true) (hname : (fn.name == "runtime.NumGoroutine") = false)
    (ho : o.op = .call { callee := .value (.tmp t), args := args, argTypes := ts }) (ht : a.eval (.tmp t) = .func (.func f) #[] cap.toArray) :
    (execOp a.eval o).run P w = .ok (.enter f (args.map a.eval ++ cap.toArray)) w := by
  have hb : ¬ fn.body = none := by cases hq : fn.body <;> simp [hq] at hbody ⊢
  have hn : ¬ fn.name = "runtime.NumGoroutine" := by simpa using hname
  simp [execOp, ho, resolve, Deferred.ofValue, ht, invoke, callFunc, hf, hn, hb]
theorem cap_rep {f : Nat} {c : Option (List Int)} {v : Value} (h : RepV w S σ (.fn f c) v) : ∃ cap : List Value, v = .func (.func f) #[] cap.toArray ∧ RepVL w S (s1 none) (capL c) cap := by
  simp only [RepV, RepV0, Rep, FnRep] at h
  cases c with
  | none => exact ⟨[], by simpa using h, rfl⟩
  | some l =>
    simp only at h
    obtain ⟨b, off, A, c, e, h1, h2, h3⟩ := h
    refine ⟨[.pointer (some ⟨b, off, none⟩)], by simpa using e, _, [], rfl, ?_, rfl⟩
    simp only [RepV0, Rep]
    refine ⟨b, off, [.slice A l.length c], rfl, h1, ⟨A, c, rfl, h2⟩, fun i u hu => ?_⟩
    cases i with
    | zero => simp at hu; subst hu; exact h3
    | succ i => simp at hu
theorem callV_ok {C : Oracle} (hC : OOk P C) (hF : FOk P C) (hr : Rel n F0 w0 σ S s a w) {d : Option Tmp} (hd : dstOk n d = true) {t : Tmp} {f : FuncId} {cp : Option (List Int)} (ht : get s.t t = some (.fn f cp)) {args : Array Operand} {ts : Array TypeId} {pm : FuncId → Option Pm} {xs : List AV} (hxs : avalL s args.toList = some xs) {k : AS → Prop} (h : callV C pm s d f cp xs k) :
    DoesK P n F0 w0 σ a w d (.call { callee := .value (.tmp t), args := args, argTypes := ts }) (fun _ => False) k := by
  obtain ⟨vs, e1, e2, e3⟩ := avalL_ok hr hxs
  have hargs : args.map a.eval = vs.toArray := by
    apply Array.ext'
    rw [Array.toList_map, e1]
  unfold callV at h
  cases hp : pm f with
  | none => rw [hp] at h; cases h
  | some m =>
    rw [hp] at h
    simp only at h
    cases hent : m.ent with
    | no =>
      rw [hent] at h
      simp only at h
      obtain ⟨cap, hcv, hcr⟩ := cap_rep (hr.tmps ht)
      obtain ⟨s1', zs, S1, g1, g2, g3, g4, g5⟩ := args1_ok m.shps xs hr e2 e3 h
      cases hrf : refL zs with
      | some _ => rw [hrf] at g1; cases g1
      | none =>
        rw [hrf] at g1
        simp only at g1
        obtain ⟨fn, hfn, hb, hnm⟩ := hF _ _ _ _ g1
        have hcr' : RepVL w S1 (s1 none) (capL cp) cap := hcr.keep (fun _ _ _ => rfl) g4
        have hspec := hC _ _ _ _ g1 w S1 none (vs ++ cap) g2.Sold (RepVL.app (RepVL.free hrf g3) hcr') rfl
        intro o K Q ho hod hK
        unfold Oper.wp
        rw [run_callFn hfn hb hnm ho hcv]
        simp only [Oper.upon]
        rw [hargs, List.append_toArray]
        refine hspec.mono fun en w' ⟨rv, e', v, S', m', hpost, he, hv, hem, hS1, hS2, hg2, _, hfr⟩ => ?_
        subst he
        simp only
        rw [hod]
        have q1 := g2.chg (id := none) (hfr.weak fun b ⟨mb, hb, _⟩ => by cases hb)
        have lt : ∀ id e m g, get s1'.h id = some e → σ id = some m → m.g = some g → g < w.heap.size := fun id e m g h1 h2 h3 => by
          obtain ⟨m2, hm2, hr2⟩ := g2.ents id e h1
          rw [h2] at hm2
          cases hm2
          exact hr2.lt h3
        have q2 := q1.moreS (S' := S') hS1 (fun b hb => (hS2 b hb).1) (fun id e m g h1 h2 h3 hs => by
          rcases (hS2 g hs).2 with h4 | h4 | ⟨mb, h4, _⟩
          · exact g2.apart id e m g h1 h2 h3 h4
          · have := lt id e m g h1 h2 h3; omega
          · cases h4) (fun b hb => by
          rcases (hS2 b hb).2 with h4 | h4 | ⟨mb, h4, _⟩
          · exact .inl h4
          · exact .inr (.inl (Nat.le_trans g2.fr.size h4))
          · cases h4)
        cases e' with
        | none =>
          simp only at hpost
          have hm' : m' = none := hem
          subst hm'
          exact hK _ _ _ σ S' hpost (q2.dput hd (RepV.ofNone s1_none hv)) (hfr.weak fun b ⟨mb, hb, _⟩ => by cases hb) fun _ _ => rfl
        | some e2' => simp only at hpost
    | _ => rw [hent] at h; simp at h
theorem makeFn_ok {C : Oracle} {pm : FuncId → Option Pm} (hr : Rel n F0 w0 σ S s a w) {d : Nat} (hd : d < n) {f : FuncId} {first cap : Array Operand} {k : AS → Prop} (h : wop Γ C pm s (some d) (.makeFunc (.func f) first cap) k) :
    ∃ s', k s' ∧ Does P n F0 w0 σ a w (some d) (.makeFunc (.func f) first cap) (fun _ => False) s' := by
  obtain ⟨fl⟩ := first
  obtain ⟨cl⟩ := cap
  simp only [wop] at h
  match fl, cl, h with
  | [], [.tmp t], h =>
    simp only at h
    cases ht : get s.t t with
    | none => rw [ht] at h; simp at h
    | some x =>
      rw [ht] at h
      match x, h with
      | .ptr id 0 0, h =>
        simp only at h
        cases he : get s.h id with
        | none => rw [he] at h; simp at h
        | some e =>
          rw [he] at h
          match e, h with
          | .box ty [.ints fb .u8 l], h =>
            simp only at h
            obtain ⟨m, hm, hen⟩ := hr.ents id _ he
            have hrep := hr.tmps ht
            simp only [RepV, RepV0, Rep] at hrep
            obtain ⟨m', g, hm', hg, hv⟩ := hrep
            rw [hm] at hm'
            cases hm'
            have hlt := hen.lt hg
            have hen' := hen
            simp only [EntR, cnt, RepL, Rep] at hen'
            obtain ⟨g', css, hg', hes, _, _, _, ⟨cs, css', hcss, ⟨A, c, hcs, hsi, _⟩, hn⟩, _, hblk⟩ := hen'
            rw [hg] at hg'
            cases hg'
            subst hn hcs hcss
            have hev : a.eval (.tmp t) = .pointer (some ⟨g, 0, none⟩) := by simpa [Act.eval] using hv
            have hcell : w.cell? ⟨g, 0, none⟩ = some (.slice A l.length c) := by
              have := hblk.cell 0
              simpa using this
            have hk := hr.kill id (σ' := σ) (fun _ _ => rfl)
            have hin : ∀ i y, get (s.kill id).h i = some y → i ≠ id ∧ ∃ e0, get s.h i = some e0 := by
              intro i y hy
              simp only [AS.kill, get_emap, get_del] at hy
              by_cases hd : id = i
              · rw [if_pos hd] at hy; cases hy
              · rw [if_neg hd] at hy
                cases h0 : get s.h i with
                | none => rw [h0] at hy; cases hy
                | some e0 => exact ⟨Ne.symm hd, e0, rfl⟩
            have q := hk.moreS (S' := fun b => S b ∨ b = g) (fun b hb => .inl hb) (fun b hb => by rcases hb with hb | rfl; exact hr.Sold b hb; exact hlt) (fun i y m1 g1 h1 h2 h3 hs => by
              obtain ⟨hne, e0, h0⟩ := hin i y h1
              rcases hs with hs | rfl
              · exact hr.apart i e0 m1 g1 h0 h2 h3 hs
              · exact hne (hr.inj i id e0 _ m1 m g1 h0 he h2 hm h3 hg)) (fun b hb => by
              rcases hb with hb | rfl
              · exact .inl hb
              · rcases Nat.lt_or_ge b w0.heap.size with h1 | h1
                · exact .inr (.inr (hr.old id _ m b he hm hg h1))
                · exact .inr (.inl h1))
            refine ⟨_, h, does_run (σ' := σ) (S' := fun b => S b ∨ b = g) (v := .func (.func f) #[] #[.pointer (some ⟨g, 0, none⟩)]) (fun o ho => ?_) (q.tput hd ?_) (Fr.refl _ _) fun _ _ => rfl⟩
            · simp [execOp, ho, Instr.makeFunc, hev]
            · simp only [RepV, RepV0, Rep, FnRep]
              exact ⟨g, 0, A, c, rfl, .inr rfl, hsi.keep (fun _ _ _ => rfl) (fun b hb => .inl hb), hcell⟩
end
end Go.Proofs.Ytnioiijcmdnhaaa.V
