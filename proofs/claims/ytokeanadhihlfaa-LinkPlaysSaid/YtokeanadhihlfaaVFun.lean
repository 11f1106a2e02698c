/-
  Functions: what the evaluator gives is what the function promises. Plain theorems; no function of the program is named here.
-/
import Derived.Test.YtokeanadhihlfaaVExec
set_option linter.all false
namespace Go.Proofs.Ytokeanadhihlfaa.V
open Go Go.RowKit

section
variable {P : Program} {c : Cfg} {n : Nat} {F0 : Fx} {w0 w w' : World} {σ σ' : Sg} {S S' : Nat → Prop} {s s' : AS} {a : Act}
def Owned (σ : Sg) (h : Env) (b : Nat) : Prop := ∃ id e m, get h id = some e ∧ σ id = some m ∧ m.g = some b
theorem plain_rep {k : AS → AV → Prop} : ∀ (f : Nat) {s : AS} {S : Nat → Prop} {x : AV} {cs : List Value}, Rel n F0 w0 σ S s a w → Rep w S σ x cs → plain s x k f →
    ∃ s' x' S', k s' x' ∧ Rel n F0 w0 σ S' s' a w ∧ Rep w S' σ x' cs ∧ refAV x' = none ∧ (∀ b, S b → S' b) ∧ (∀ b, S' b → S b ∨ Owned σ s.h b) ∧ (∀ id e, get s'.h id = some e → ∃ e0, get s.h id = some e0)
  | 0, s, S, x, v, _, _, h => by simp [plain] at h
  | f + 1, s, S, x, v, hr, hx, h => by
    simp only [plain] at h
    cases hx1 : refAV x with
    | none => rw [hx1] at h; exact ⟨s, x, S, h, hr, hx, hx1, fun _ h => h, fun _ h => .inl h, fun id e he => ⟨e, he⟩⟩
    | some id =>
      rw [hx1] at h
      simp only at h
      cases he : get s.h id with
      | none => rw [he] at h; simp at h
      | some e =>
        rw [he] at h
        obtain ⟨m, hm, hen⟩ := hr.ents id e he
        have hS : ∀ b, S b → (S b ∨ m.g = some b) := fun b hb => .inl hb
        have hg : ∀ g, m.g = some g → (S g ∨ m.g = some g) := fun g hg => .inr hg
        have hsub : ∀ e1 i y, get (s.frz id e1).h i = some y → ∃ y0, get s.h i = some y0 := by
          intro e1 i y hy
          simp only [AS.frz, get_emap, get_del] at hy
          by_cases hd : id = i
          · rw [if_pos hd] at hy; cases hy
          · rw [if_neg hd] at hy
            cases h0 : get s.h i with
            | none => rw [h0] at hy; cases hy
            | some y0 => exact ⟨y0, rfl⟩
        have fin : ∀ (e1 : AV) (hl : (∃ t k l, e = .lini t k l) ∨ ∃ t T l, e = .linr t T l), e1 = e → plain (s.frz id e1) (frzAV id e1 x) k f →
            ∃ s' x' S', k s' x' ∧ Rel n F0 w0 σ S' s' a w ∧ Rep w S' σ x' v ∧ refAV x' = none ∧ (∀ b, S b → S' b) ∧ (∀ b, S' b → S b ∨ Owned σ s.h b) ∧ (∀ id e, get s'.h id = some e → ∃ e0, get s.h id = some e0) := by
          rintro e1 hl rfl h
          obtain ⟨s', x', S', h1, h2, h3, h4, h5, h6, h7⟩ := plain_rep f (hr.frz he hm hl) (Rep.frz hm hen hl hS hg x v hx) h
          refine ⟨s', x', S', h1, h2, h3, h4, fun b hb => h5 b (.inl hb), fun b hb => ?_, fun i y hy => by obtain ⟨y1, hy1⟩ := h7 i y hy; exact hsub _ i y1 hy1⟩
          rcases h6 b hb with (h8 | h8) | ⟨i, y, m', g1, g2, g3⟩
          · exact .inl h8
          · exact .inr ⟨id, e1, m, he, hm, h8⟩
          · obtain ⟨y0, hy0⟩ := hsub _ i y g1
            exact .inr ⟨i, y0, m', hy0, g2, g3⟩
        cases e with
        | lini t kk l => exact fin _ (.inl ⟨t, kk, l, rfl⟩) rfl h
        | linr t T l => exact fin _ (.inr ⟨t, T, l, rfl⟩) rfl h
        | _ => simp at h
/-- The results as far as they are formed. -/
structure FinSt (n : Nat) (F0 : Fx) (w0 : World) (σ : Sg) (a : Act) (w : World) (S : Nat → Prop) (s : AS) (e : Option AV) (m : Option Mb) : Prop where
  rel : Rel n F0 w0 σ S s a w
  ent : (e = none ∧ m = none) ∨ ∃ en mb, e = some en ∧ m = some mb ∧ EntR w S (fun _ => none) en mb ∧ ∀ g, mb.g = some g → ¬ S g ∧ (g < w0.heap.size → F0 g) ∧ ¬ Owned σ s.h g
theorem FinSt.plain {e : Option AV} {m : Option Mb} (h : FinSt n F0 w0 σ a w S s e m) (hr : Rel n F0 w0 σ S' s' a w) (hS : ∀ b, S b → S' b) (hS2 : ∀ b, S' b → S b ∨ Owned σ s.h b) (hh : ∀ id e, get s'.h id = some e → ∃ e0, get s.h id = some e0) : FinSt n F0 w0 σ a w S' s' e m := by
  refine ⟨hr, ?_⟩
  rcases h.ent with h1 | ⟨en, mb, h1, h2, h3, h4⟩
  · exact .inl h1
  · refine .inr ⟨en, mb, h1, h2, h3.keep (fun _ _ _ => rfl) hS (fun _ _ => rfl), fun g hg => ?_⟩
    obtain ⟨g1, g2, g3⟩ := h4 g hg
    refine ⟨fun hs => ?_, g2, fun ⟨i, y, m', q1, q2, q3⟩ => ?_⟩
    · rcases hS2 g hs with h5 | h5
      · exact g1 h5
      · exact g3 h5
    · obtain ⟨y0, hy0⟩ := hh i y q1
      exact g3 ⟨i, y0, m', hy0, q2, q3⟩
theorem kill_sub {id : Nat} : ∀ i y, get (s.kill id).h i = some y → ∃ y0, i ≠ id ∧ get s.h i = some y0 := by
  intro i y hy
  simp only [AS.kill, get_emap, get_del] at hy
  by_cases hd : id = i
  · rw [if_pos hd] at hy; cases hy
  · rw [if_neg hd] at hy
    cases h0 : get s.h i with
    | none => rw [h0] at hy; cases hy
    | some y0 => exact ⟨y0, Ne.symm hd, rfl⟩
theorem finE_ok {e : Option AV} {m : Option Mb} {id : Nat} {x y : AV} {cs : List Value} {k : AS → Option AV → AV → Prop} (hf : FinSt n F0 w0 σ a w S s e m) (hx : Rep w S σ x cs) (hxy : ∀ mb, σ id = some mb → Rep w S (s1 (some mb)) y cs) (h : finE s e id y k) :
    ∃ s' e' S' m', k s' e' y ∧ FinSt n F0 w0 σ a w S' s' e' m' ∧ Rep w S' (s1 m') y cs ∧ (∀ b, S b → S' b) ∧ (∀ b, S' b → S b ∨ Owned σ s.h b) ∧ (m = none ∨ m' = m) ∧ (∀ id e, get s'.h id = some e → ∃ e0, get s.h id = some e0) ∧ (∀ g, blkOf m' g → blkOf m g ∨ Owned σ s.h g) := by
  unfold finE at h
  cases e with
  | some _ => simp at h
  | none =>
    simp only at h
    have hm : m = none := by rcases hf.ent with ⟨_, h2⟩ | ⟨_, _, h1, _⟩; exact h2; cases h1
    subst hm
    cases he : get s.h id with
    | none => rw [he] at h; cases h
    | some en =>
      rw [he] at h
      simp only at h
      cases hre : entRef en with
      | some _ => rw [hre] at h; cases h
      | none =>
        rw [hre] at h
        obtain ⟨mb, hmb, hen⟩ := hf.rel.ents id en he
        refine ⟨_, _, S, some mb, h, ⟨hf.rel.kill id (fun _ _ => rfl), .inr ⟨en, mb, rfl, rfl, EntR.free hre hen, fun g hg => ⟨hf.rel.apart id en mb g he hmb hg, hf.rel.old id en mb g he hmb hg, ?_⟩⟩⟩, hxy mb hmb, fun _ h => h, fun _ h => .inl h, .inl rfl, fun i y hy => by obtain ⟨y0, _, h0⟩ := kill_sub i y hy; exact ⟨y0, h0⟩, fun g ⟨mb', h1, h2⟩ => by cases h1; exact .inr ⟨id, en, mb, he, hmb, h2⟩⟩
        rintro ⟨i, y', m', q1, q2, q3⟩
        obtain ⟨y0, hne, h0⟩ := kill_sub i y' q1
        exact hne (hf.rel.inj i id y0 en m' mb g h0 he q2 hmb q3 hg)
theorem finN_ok {e : Option AV} {m : Option Mb} {en : AV} {es : Nat} (hen : ∀ w S σ, EntR w S σ en ⟨none, es, 0, 0⟩) {cs : List Value} {k : AS → Option AV → AV → Prop} (hf : FinSt n F0 w0 σ a w S s e m) (hx : Rep w S σ .nil cs) (h : finN s e en k) :
    ∃ s' e' S' m', k s' e' (.ownf E0) ∧ FinSt n F0 w0 σ a w S' s' e' m' ∧ Rep w S' (s1 m') (.ownf E0) cs ∧ (∀ b, S b → S' b) ∧ (∀ b, S' b → S b ∨ Owned σ s.h b) ∧ (m = none ∨ m' = m) ∧ (∀ id e, get s'.h id = some e → ∃ e0, get s.h id = some e0) ∧ (∀ g, blkOf m' g → blkOf m g ∨ Owned σ s.h g) := by
  unfold finN at h
  cases e with
  | some _ => simp at h
  | none =>
    simp only at h
    have hm : m = none := by rcases hf.ent with ⟨_, h2⟩ | ⟨_, _, h1, _⟩; exact h2; cases h1
    subst hm
    refine ⟨s, _, S, some ⟨none, es, 0, 0⟩, h, ⟨hf.rel, .inr ⟨en, _, rfl, rfl, hen _ _ _, fun g hg => by cases hg⟩⟩, ?_, fun _ h => h, fun _ h => .inl h, .inl rfl, fun i y hy => ⟨y, hy⟩, fun g ⟨mb', h1, h2⟩ => by cases h1; cases h2⟩
    simp only [Rep] at hx ⊢
    exact ⟨⟨none, es, 0, 0⟩, by simp [s1], hx⟩
theorem canon_plain {sh : Shp} {x z : AV} (h : canon sh x = some z) (hs : ∀ ss, sh ≠ .a ss) : isCell z = true ∧ refAV z = none := by
  cases sh with
  | a ss => exact absurd rfl (hs ss)
  | s => cases x <;> simp [canon] at h <;> (subst h; exact ⟨rfl, rfl⟩)
  | i k =>
    cases x with
    | nil => simp only [canon] at h; cases h; exact ⟨rfl, rfl⟩
    | ints f k' l =>
      simp only [canon] at h
      split at h
      · cases h; exact ⟨rfl, rfl⟩
      · cases h
    | _ => simp [canon] at h
  | r T =>
    cases x with
    | nil => simp only [canon] at h; cases h; exact ⟨rfl, rfl⟩
    | rs f k' l =>
      simp only [canon] at h
      split at h
      · cases h; exact ⟨rfl, rfl⟩
      · cases h
    | _ => simp [canon] at h
  | p =>
    cases x with
    | top => simp only [canon] at h; cases h; exact ⟨rfl, rfl⟩
    | _ => simp [canon] at h
  | f =>
    cases x with
    | fn g c => simp only [canon] at h; cases h; exact ⟨rfl, rfl⟩
    | _ => simp [canon] at h
  | _ => cases x <;> simp [canon] at h
mutual
theorem fin_ok : ∀ (sh : Shp) (x : AV) {s : AS} {S : Nat → Prop} {e : Option AV} {m : Option Mb} {cs : List Value} {k : AS → Option AV → AV → Prop}, FinSt n F0 w0 σ a w S s e m → Rep w S σ x cs → fin s e sh x k →
    ∃ s' e' S' m' y, k s' e' y ∧ FinSt n F0 w0 σ a w S' s' e' m' ∧ Rep w S' (s1 m') y cs ∧ (∀ b, S b → S' b) ∧ (∀ b, S' b → S b ∨ Owned σ s.h b) ∧ (m = none ∨ m' = m) ∧ (∀ id e, get s'.h id = some e → ∃ e0, get s.h id = some e0) ∧ (∀ g, blkOf m' g → blkOf m g ∨ Owned σ s.h g) ∧ isCell y = isCell x := by
  intro sh x s S e m cs k hf hx h
  have pl : ∀ (sh' : Shp), (∀ ss, sh' ≠ .a ss) → isCell x = true → plain s x (fun s y => canonK sh' y (fun z => k s e z)) 9 →
      ∃ s' e' S' m' y, k s' e' y ∧ FinSt n F0 w0 σ a w S' s' e' m' ∧ Rep w S' (s1 m') y cs ∧ (∀ b, S b → S' b) ∧ (∀ b, S' b → S b ∨ Owned σ s.h b) ∧ (m = none ∨ m' = m) ∧ (∀ id e, get s'.h id = some e → ∃ e0, get s.h id = some e0) ∧ (∀ g, blkOf m' g → blkOf m g ∨ Owned σ s.h g) ∧ isCell y = isCell x := by
    intro sh' hs hxc h
    obtain ⟨s', x', S', h1, h2, h3, h4, h5, h6, h7⟩ := plain_rep 9 hf.rel hx h
    unfold canonK at h1
    cases hc : canon sh' x' with
    | none => rw [hc] at h1; cases h1
    | some z =>
      rw [hc] at h1
      have hz := (canon_rep sh' x' z cs hc h3).1
      obtain ⟨c1, c2⟩ := canon_plain hc hs
      exact ⟨s', e, S', m, z, h1, hf.plain h2 h5 h6 h7, Rep.free _ _ c2 hz, h5, h6, .inr rfl, h7, fun g hg => .inl hg, by rw [hxc, c1]⟩
  cases sh with
  | f => simp only [fin] at h
  | s =>
    simp only [fin] at h
    cases hxc : isCell x with
    | false => rw [hxc] at h; cases h
    | true => rw [hxc] at h; rw [← hxc]; exact pl .s (fun _ h => by cases h) hxc h
  | i kk =>
    simp only [fin] at h
    cases hxc : isCell x with
    | false => rw [hxc] at h; cases h
    | true => rw [hxc] at h; rw [← hxc]; exact pl (.i kk) (fun _ h => by cases h) hxc h
  | r T =>
    simp only [fin] at h
    cases hxc : isCell x with
    | false => rw [hxc] at h; cases h
    | true => rw [hxc] at h; rw [← hxc]; exact pl (.r T) (fun _ h => by cases h) hxc h
  | li t kk =>
    simp only [fin] at h
    cases x with
    | ownf id =>
      simp only at h
      obtain ⟨s', e', S', m', g1, g2, g3, g4⟩ := finE_ok (y := .ownf E0) hf hx (fun mb hmb => by
        simp only [Rep] at hx ⊢
        obtain ⟨mb', h1, h2⟩ := hx
        rw [hmb] at h1
        cases h1
        exact ⟨mb, by simp [s1], h2⟩) h
      exact ⟨s', e', S', m', _, g1, g2, g3, g4.1, g4.2.1, g4.2.2.1, g4.2.2.2.1, g4.2.2.2.2, rfl⟩
    | nil =>
      simp only at h
      obtain ⟨es, hes⟩ := nil_ent (sh := .li t kk) rfl
      obtain ⟨s', e', S', m', g1, g2, g3, g4⟩ := finN_ok (es := es) hes hf hx h
      exact ⟨s', e', S', m', _, g1, g2, g3, g4.1, g4.2.1, g4.2.2.1, g4.2.2.2.1, g4.2.2.2.2, rfl⟩
    | _ => simp at h
  | lr t T =>
    simp only [fin] at h
    cases x with
    | ownf id =>
      simp only at h
      obtain ⟨s', e', S', m', g1, g2, g3, g4⟩ := finE_ok (y := .ownf E0) hf hx (fun mb hmb => by
        simp only [Rep] at hx ⊢
        obtain ⟨mb', h1, h2⟩ := hx
        rw [hmb] at h1
        cases h1
        exact ⟨mb, by simp [s1], h2⟩) h
      exact ⟨s', e', S', m', _, g1, g2, g3, g4.1, g4.2.1, g4.2.2.1, g4.2.2.2.1, g4.2.2.2.2, rfl⟩
    | nil =>
      simp only at h
      obtain ⟨es, hes⟩ := nil_ent (sh := .lr t T) rfl
      obtain ⟨s', e', S', m', g1, g2, g3, g4⟩ := finN_ok (es := es) hes hf hx h
      exact ⟨s', e', S', m', _, g1, g2, g3, g4.1, g4.2.1, g4.2.2.1, g4.2.2.2.1, g4.2.2.2.2, rfl⟩
    | _ => simp at h
  | p =>
    simp only [fin] at h
    split at h
    · rename_i id
      obtain ⟨s', e', S', m', g1, g2, g3, g4⟩ := finE_ok (y := .ptr E0 0 0) hf hx (fun mb hmb => by
        simp only [Rep] at hx ⊢
        obtain ⟨mb', g, h1, h2, h3⟩ := hx
        rw [hmb] at h1
        cases h1
        exact ⟨mb, g, by simp [s1], h2, h3⟩) h
      exact ⟨s', e', S', m', _, g1, g2, g3, g4.1, g4.2.1, g4.2.2.1, g4.2.2.2.1, g4.2.2.2.2, rfl⟩
    · cases h
  | a ss =>
    simp only [fin] at h
    cases x with
    | agg l =>
      simp only at h
      simp only [Rep] at hx
      obtain ⟨css, h1, h2⟩ := hx
      obtain ⟨s', e', S', m', ys, g1, g2, g3, g4, g5, g6, g7, g8, g9⟩ := finL_ok ss l hf h1 h
      refine ⟨s', e', S', m', .agg ys, g1, g2, ?_, g4, g5, g6, g7, g8, rfl⟩
      simp only [Rep]
      exact ⟨css, g3, h2⟩
    | _ => simp at h
theorem finL_ok : ∀ (ss : List Shp) (l : List AV) {s : AS} {S : Nat → Prop} {e : Option AV} {m : Option Mb} {css : List (List Value)} {k : AS → Option AV → List AV → Prop}, FinSt n F0 w0 σ a w S s e m → RepL w S σ l css → finL s e ss l k →
    ∃ s' e' S' m' ys, k s' e' ys ∧ FinSt n F0 w0 σ a w S' s' e' m' ∧ RepL w S' (s1 m') ys css ∧ (∀ b, S b → S' b) ∧ (∀ b, S' b → S b ∨ Owned σ s.h b) ∧ (m = none ∨ m' = m) ∧ (∀ id e, get s'.h id = some e → ∃ e0, get s.h id = some e0) ∧ (∀ g, blkOf m' g → blkOf m g ∨ Owned σ s.h g) ∧ ys.map isCell = l.map isCell := by
  intro ss l s S e m css k hf hx h
  cases ss with
  | nil =>
    cases l with
    | nil =>
      simp only [finL] at h
      simp only [RepL] at hx
      subst hx
      exact ⟨s, e, S, m, [], h, hf, rfl, fun _ h => h, fun _ h => .inl h, .inr rfl, fun i y hy => ⟨y, hy⟩, fun g hg => .inl hg, rfl⟩
    | cons x l => simp [finL] at h
  | cons sh ss =>
    cases l with
    | nil => simp [finL] at h
    | cons x l =>
      simp only [finL] at h
      simp only [RepL] at hx
      obtain ⟨cs, css', rfl, h1, h2⟩ := hx
      obtain ⟨s1', e1, S1, m1, y, g1, g2, g3, g4, g5, g6, g7, g8, g9⟩ := fin_ok sh x hf h1 h
      obtain ⟨s2, e2, S2, m2, ys, q1, q2, q3, q4, q5, q6, q7, q8, q9⟩ := finL_ok ss l g2 (RepL.keep _ _ h2 (fun _ _ _ => rfl) g4) g1
      have own : ∀ b, Owned σ s1'.h b → Owned σ s.h b := fun b ⟨i, y', m', a1, a2, a3⟩ => by
        obtain ⟨y0, hy0⟩ := g7 i y' a1
        exact ⟨i, y0, m', hy0, a2, a3⟩
      refine ⟨s2, e2, S2, m2, y :: ys, q1, q2, ?_, fun b hb => q4 b (g4 b hb), fun b hb => ?_, ?_, fun i y' hy => by obtain ⟨y1, hy1⟩ := q7 i y' hy; exact g7 i y1 hy1, fun g hg => ?_, by simp [g9, q9]⟩
      · simp only [RepL]
        refine ⟨cs, css', rfl, ?_, q3⟩
        have hy := Rep.keep _ _ g3 (w' := w) (S' := S2) (fun _ _ _ => rfl) q4
        rcases q6 with h6 | h6
        · subst h6
          exact Rep.ofNone s1_none _ _ hy
        · rw [h6]
          exact hy
      · rcases q5 b hb with h5 | h5
        · exact g5 b h5
        · exact .inr (own b h5)
      · rcases g6 with h6 | h6
        · exact .inl h6
        · rcases q6 with h7 | h7
          · exact .inl (by rw [← h6]; exact h7)
          · exact .inr (h7.trans h6)
      · rcases q8 g hg with h8 | h8
        · exact g8 g h8
        · exact .inr (own g h8)
end

/-! ### a function's beginning -/
theorem get_params : ∀ (l : List AV) (j t : Nat) (x : AV), get (paramsFrom j l) t = some x → j ≤ t ∧ l[t - j]? = some x
  | [], j, t, x, h => by simp [paramsFrom, get] at h
  | y :: l, j, t, x, h => by
    simp only [paramsFrom, get] at h
    cases hb : Nat.beq j t with
    | true =>
      rw [hb] at h
      have := beq_true hb
      subst this
      simp at h
      subst h
      simp
    | false =>
      rw [hb] at h
      obtain ⟨h1, h2⟩ := get_params l (j + 1) t x h
      refine ⟨by omega, ?_⟩
      obtain ⟨q, rfl⟩ : ∃ q, t = j + 1 + q := ⟨t - (j + 1), by omega⟩
      rw [show j + 1 + q - j = q + 1 by omega]
      rw [show j + 1 + q - (j + 1) = q by omega] at h2
      simpa using h2
theorem RepVL.at_ : ∀ {l : List AV} {vs : List Value} (i : Nat) {x : AV}, RepVL w S σ l vs → l[i]? = some x → ∃ v, vs[i]? = some v ∧ RepV0 w S σ x v
  | [], _, _, _, _, h => by simp at h
  | y :: l, vs, i, x, hv, h => by
    simp only [RepVL] at hv
    obtain ⟨v, vs', rfl, h1, h2⟩ := hv
    cases i with
    | zero => simp at h; subst h; exact ⟨v, rfl, h1⟩
    | succ i => obtain ⟨u, hu, hr⟩ := RepVL.at_ i h2 (by simpa using h); exact ⟨u, by simpa using hu, hr⟩
theorem RepVL.length : ∀ {l : List AV} {vs : List Value}, RepVL w S σ l vs → vs.length = l.length
  | [], _, h => by simp only [RepVL] at h; subst h; rfl
  | _ :: _, _, ⟨v, vs', e, _, h2⟩ => by subst e; simp [RepVL.length h2]
theorem start_rel {args : List AV} {vs : List Value} {e : Option AV} {m : Option Mb} (hn : n ≤ E0) (hle : vs.length ≤ n) (hS : ∀ b, S b → b < w.heap.size) (hv : RepVL w S (s1 m) args vs) (he : EntOk w S m e) :
    Rel n ⟨blkOf m, m, S⟩ w (s1 m) S ⟨paramsFrom 0 args, startH e⟩ { tmps := vs.toArray ++ Array.replicate (n - vs.toArray.size) undef, defers := [] } w := by
  have key : ∀ id y, get (startH e) id = some y → id = E0 ∧ e = some y := by
    intro id y hy
    cases e with
    | none => simp [startH, get] at hy
    | some e =>
      simp only [startH, get] at hy
      cases hb : Nat.beq E0 id with
      | true => rw [hb] at hy; cases hy; exact ⟨(beq_true hb).symm, rfl⟩
      | false => rw [hb] at hy; cases hy
  have hm : ∀ id y, get (startH e) id = some y → ∃ mb, s1 m id = some mb ∧ m = some mb ∧ EntR w S (fun _ => none) y mb ∧ ∀ g, mb.g = some g → ¬ S g := by
    intro id y hy
    obtain ⟨rfl, rfl⟩ := key id y hy
    obtain ⟨mb, rfl, h1, h2⟩ := he
    exact ⟨mb, by simp [s1], rfl, h1, h2⟩
  exact {
    small := hn
    sz := by simp; omega
    defers := rfl
    slots := fun t x hx => by
      obtain ⟨_, h2⟩ := get_params args 0 t x hx
      obtain ⟨v, hv1, hv2⟩ := RepVL.at_ t hv (by simpa using h2)
      refine ⟨v, ?_, RepV.of0 hv2⟩
      have hlt : t < vs.length := (List.getElem?_eq_some_iff.1 hv1).1
      rw [List.getElem?_eq_getElem hlt] at hv1
      simp [Array.getElem?_append, hlt]
      simpa using hv1
    ents := fun id y hy => by
      obtain ⟨mb, h1, _, h2, _⟩ := hm id y hy
      exact ⟨mb, h1, EntR.ofNone (fun _ => rfl) h2⟩
    inj := fun id id' y y' m1 m2 g h1 h2 _ _ _ _ => by rw [(key id y h1).1, (key id' y' h2).1]
    apart := fun id y m1 g h1 h2 h3 => by
      obtain ⟨mb, q1, _, _, q4⟩ := hm id y h1
      rw [h2] at q1
      cases q1
      exact q4 g h3
    old := fun id y m1 g h1 h2 h3 _ => by
      obtain ⟨mb, q1, q2, _, _⟩ := hm id y h1
      rw [h2] at q1
      cases q1
      exact ⟨m1, q2, h3⟩
    Sold := hS
    ent := fun y hy => by
      obtain ⟨mb, q1, q2, _, _⟩ := hm E0 y hy
      rw [q1, q2]
    mono := fun _ h => h
    src := fun _ h => .inl h
    fr := Fr.refl _ _ }
/-! ### a function's end -/
def resVal (tmps : Array Value) : ResultVar → Sem Value
  | .tmp t => pure (tmps.getD t undef)
  | .cell p t => do loadVar t (← asAddr (tmps.getD p undef))
theorem loadRes_ok (hΓ : TOk P c.Γ) (hr : Rel n F0 w0 σ S s a w) {x : ResultVar} {y : AV} (h : loadRes c.Γ s x = some y) : ∃ v, (resVal a.tmps x).run P w = .ok v w ∧ RepV0 w S σ y v := by
  cases x with
  | tmp t =>
    simp only [loadRes] at h
    cases hx : get s.t t with
    | none => rw [hx] at h; cases h
    | some z =>
      rw [hx] at h
      simp only at h
      cases hn : notTU z with
      | false => rw [hn] at h; cases h
      | true =>
        rw [hn] at h
        cases h
        have := hr.tmps hx
        refine ⟨a.tmps.getD t undef, by simp only [resVal, Sem.run_pure], ?_⟩
        cases y with
        | tup l => simp [notTU] at hn
        | undef => simp [notTU] at hn
        | _ => exact this
  | cell p ty =>
    simp only [loadRes] at h
    split at h
    · rename_i id hp
      split at h
      · rename_i t l ti he ht
        cases ha : ti.agg with
        | false => rw [ha] at h; simp at h
        | true =>
          cases hb : Nat.beq ti.size (cnt l) with
          | false => rw [ha, hb] at h; simp at h
          | true =>
            rw [ha, hb] at h
            cases h
            have hrp := hr.tmps hp
            simp only [RepV, RepV0, Rep, List.cons.injEq, and_true] at hrp
            obtain ⟨m, g, hm, hg, hpe⟩ := hrp
            obtain ⟨m', hm', hen⟩ := hr.ents id _ he
            rw [hm] at hm'
            cases hm'
            simp only [EntR] at hen
            obtain ⟨g', css, e1, e2, e3, e4, e5, e6, e7, e8⟩ := hen
            rw [hg] at e1
            cases e1
            have hlen := RepL.length e6
            have hfl : css.flatten.length = css.length := by rw [flat_len 1 css e7, Nat.mul_one]
            refine ⟨.agg css.flatten.toArray, ?_, ?_⟩
            · simp only [resVal, Sem.run_bind, hpe, asAddr, Sem.run_pure, Result.andThen_ok]
              have := run_loadA (w := w) (hΓ ty ti ht) ha (b := g) (off := 0 * m.es + 0) (cs := css.flatten) (by have := beq_true hb; omega) (fun j v hv => by
                rw [e8.cell]
                simpa using hv)
              exact this
            · simp only [RepV0]
              exact ⟨_, rfl, by simp only [Rep]; exact ⟨css, e6, rfl⟩⟩
      · cases h
    · cases h
theorem loadsRes_ok (hΓ : TOk P c.Γ) (hr : Rel n F0 w0 σ S s a w) : ∀ {xs : List ResultVar} {ys : List AV}, loadsRes c.Γ s xs = some ys → ∃ vs, (xs.mapM (resVal a.tmps)).run P w = .ok vs w ∧ RepVL w S σ ys vs
  | [], ys, h => by simp only [loadsRes] at h; cases h; exact ⟨[], by simp, rfl⟩
  | x :: xs, ys, h => by
    simp only [loadsRes] at h
    cases hx : loadRes c.Γ s x with
    | none => rw [hx] at h; cases h
    | some y =>
      rw [hx] at h
      simp only at h
      cases hl : loadsRes c.Γ s xs with
      | none => rw [hl] at h; cases h
      | some rs =>
        rw [hl] at h
        cases h
        obtain ⟨v, h1, h2⟩ := loadRes_ok hΓ hr hx
        obtain ⟨vs, h3, h4⟩ := loadsRes_ok hΓ hr hl
        exact ⟨v :: vs, by simp [List.mapM_cons, h1, h3], v, vs, rfl, h2, h4⟩
def oneV : List Value → Value
  | [v] => v
  | vs => .tuple vs.toArray
theorem results_run {fn : Func} {tmps : Array Value} {vs : List Value} (h : (fn.results.toList.mapM (resVal tmps)).run P w = .ok vs w) : (results fn tmps).run P w = .ok (oneV vs) w := by
  unfold results
  rw [Array.mapM_eq_mapM_toList]
  change ((do
    let vs ← (Functor.map List.toArray (fn.results.toList.mapM (resVal tmps)))
    pure (if h : vs.size = 1 then vs[0] else .tuple vs)) : Sem Value).run P w = _
  simp only [Sem.run_bind, Sem.run_map, h, Result.andThen_ok]
  match vs with
  | [] => simp [oneV]
  | [v] => simp [oneV]
  | _ :: _ :: _ => simp [oneV]
theorem cells0 {x : AV} {v : Value} (h : RepV0 w S σ x v) : ∃ cs, Rep w S σ x cs ∧ (isCell x = false → v = .agg cs.toArray) ∧ (isCell x = true → cs = [v]) := by
  cases x with
  | agg l => simp only [RepV0] at h; obtain ⟨cs, e, h1⟩ := h; exact ⟨cs, h1, fun _ => e, fun h => by simp [isCell] at h⟩
  | _ => exact ⟨[v], h, fun h => by simp [isCell] at h, fun _ => rfl⟩
theorem uncells0 {y : AV} {v : Value} {cs : List Value} {b : Bool} (h : Rep w S σ y cs) (hb : isCell y = b) (h1 : b = false → v = .agg cs.toArray) (h2 : b = true → cs = [v]) : RepV0 w S σ y v := by
  cases y with
  | agg l => simp only [RepV0]; exact ⟨cs, h1 (by rw [← hb]; rfl), h⟩
  | _ => have := h2 (by rw [← hb]; rfl); subst this; exact h
theorem cellsL : ∀ {xs : List AV} {vs : List Value}, RepVL w S σ xs vs → ∃ css, RepL w S σ xs css ∧ ∀ {S' : Nat → Prop} {σ' : Sg} {ys : List AV}, RepL w S' σ' ys css → ys.map isCell = xs.map isCell → RepVL w S' σ' ys vs
  | [], vs, h => by
    simp only [RepVL] at h
    subst h
    refine ⟨[], rfl, fun {S' σ' ys} hy hm => ?_⟩
    cases ys with
    | nil => rfl
    | cons y ys => simp at hm
  | x :: xs, vs, h => by
    simp only [RepVL] at h
    obtain ⟨v, vs', rfl, h1, h2⟩ := h
    obtain ⟨cs, c1, c2, c3⟩ := cells0 h1
    obtain ⟨css, d1, d2⟩ := cellsL h2
    refine ⟨cs :: css, by simp only [RepL]; exact ⟨cs, css, rfl, c1, d1⟩, fun {S' σ' ys} hy hm => ?_⟩
    cases ys with
    | nil => simp at hm
    | cons y ys =>
      simp only [List.map_cons, List.cons.injEq] at hm
      simp only [RepL] at hy
      obtain ⟨cs', css', e, q1, q2⟩ := hy
      simp only [List.cons.injEq] at e
      obtain ⟨rfl, rfl⟩ := e
      exact ⟨v, vs', rfl, uncells0 q1 hm.1 c2 c3, d2 q2 hm.2⟩
theorem one_ok {ys : List AV} {vs : List Value} (h : RepVL w S σ ys vs) : RepV w S σ (one ys) (oneV vs) := by
  match ys, vs, h with
  | [], vs, h => simp only [RepVL] at h; subst h; simp only [one, RepV]; exact ⟨[], rfl, rfl⟩
  | [y], vs, h =>
    simp only [RepVL] at h
    obtain ⟨v, vs', rfl, h1, rfl⟩ := h
    exact RepV.of0 h1
  | y :: y2 :: ys, vs, h =>
    have h0 := h
    simp only [RepVL] at h
    obtain ⟨v, vs', rfl, h1, v2, vs2, rfl, h2, h3⟩ := h
    simp only [one, RepV]
    exact ⟨v :: v2 :: vs2, rfl, h0⟩
/-- WHAT THE EVALUATOR GIVES IS WHAT THE FUNCTION PROMISES. -/
theorem runF_ok (hc : COk P c) (hmx : P.follows .mixedOrders = true) {f : FuncId} {fn : Func} (hf : P.funcs[f]? = some fn) {code : Code} (hb : fn.body = some code) (hn : c.n = fn.ntmps) (hsm : c.n ≤ E0) (hp : plOk c code = true)
    (hL : ∀ body ∈ loopsOf code, ∀ s k, c.L (keyOf body) s k → Tri P c.n (.loop body) s k) {pm : Pm} {args : List AV} (hargs : args.length ≤ c.n) {e : Option AV} (hpe : (∃ t l, e = some (.box t l)) → ∃ i, pm.ent = .bx i) {post : AV → Option AV → Prop}
    (h : runF c pm fn args e post) : Spec P f args e post := by
  intro w S m vs hS hv he
  unfold runF at h
  rw [hb] at h
  simp only at h
  have hvl := hv.length
  have hrel := start_rel (n := c.n) hsm (by omega) hS hv he
  refine calls_of_wp hf hb ?_
  rw [← hn]
  refine exec_ok hc hmx code hp hL hrel h ?_
  intro o s' a' w' σ' S' ho hr
  -- the end
  have fin : finish c.Γ pm fn s' post → bodyPost P fn (fun en w' => ∃ rv e' v S'' m', post rv e' ∧ en = .returned v ∧ RepV w' S'' (s1 m') rv v ∧ EntOk w' S'' m' e' ∧ (∀ b, S b → S'' b) ∧ (∀ b, S'' b → b < w'.heap.size ∧ (S b ∨ w.heap.size ≤ b ∨ blkOf m b)) ∧
      (∀ g, blkOf m' g → blkOf m g ∨ w.heap.size ≤ g) ∧ ((∃ t l, e = some (.box t l)) → m' = m) ∧ Fr (blkOf m) w w') .ret a' w' := by
    intro hfin
    unfold finish at hfin
    cases hl : loadsRes c.Γ s' fn.results.toList with
    | none => rw [hl] at hfin; cases hfin
    | some rs =>
      rw [hl] at hfin
      simp only at hfin
      obtain ⟨us, u1, u2⟩ := loadsRes_ok hc.types hr hl
      obtain ⟨css, c1, c2⟩ := cellsL u2
      have f0 : FinSt c.n ⟨blkOf m, m, S⟩ w σ' a' w' S' s' none none := ⟨hr, .inl ⟨rfl, rfl⟩⟩
      refine ⟨hr.defers, _, results_run u1, ?_⟩
      have hold : ∀ g, Owned σ' s'.h g → blkOf m g ∨ w.heap.size ≤ g := fun g ⟨i, y, mb, h1, h2, h3⟩ => by
        rcases Nat.lt_or_ge g w.heap.size with hlt | hge
        · exact .inl (hr.old i y mb g h1 h2 h3 hlt)
        · exact .inr hge
      have hsrc : ∀ (S2 : Nat → Prop) (s2 : AS) σ2, Rel c.n ⟨blkOf m, m, S⟩ w σ2 S2 s2 a' w' → ∀ b, S2 b → b < w'.heap.size ∧ (S b ∨ w.heap.size ≤ b ∨ blkOf m b) := fun S2 s2 σ2 h2 b hb => ⟨h2.Sold b hb, h2.src b hb⟩
      have plainEnd : finL s' none pm.res rs (fun _ e l => post (one l) e) → (∀ i, pm.ent ≠ .bx i) →
          ∃ rv e' v S'' m', post rv e' ∧ Ending.returned (oneV us) = .returned v ∧ RepV w' S'' (s1 m') rv v ∧ EntOk w' S'' m' e' ∧ (∀ b, S b → S'' b) ∧ (∀ b, S'' b → b < w'.heap.size ∧ (S b ∨ w.heap.size ≤ b ∨ blkOf m b)) ∧
            (∀ g, blkOf m' g → blkOf m g ∨ w.heap.size ≤ g) ∧ ((∃ t l, e = some (.box t l)) → m' = m) ∧ Fr (blkOf m) w w' := by
        intro hfin hnb
        obtain ⟨s2, e2, S2, m2, ys, g1, g2, g3, g4, g5, g6, g7, g8, g9⟩ := finL_ok pm.res rs f0 c1 hfin
        refine ⟨_, _, _, S2, m2, g1, rfl, one_ok (c2 g3 g9), ?_, g2.rel.mono, hsrc S2 s2 σ' g2.rel, fun g hg => ?_, (fun hbx => by obtain ⟨i, hi⟩ := hpe hbx; exact absurd hi (hnb i)), g2.rel.fr⟩
        · rcases g2.ent with ⟨rfl, rfl⟩ | ⟨en, mb, rfl, rfl, q3, q4⟩
          · rfl
          · exact ⟨mb, rfl, q3, fun g hg => (q4 g hg).1⟩
        · rcases g8 g hg with ⟨_, h1, _⟩ | h1
          · cases h1
          · exact hold g h1
      cases hpm : pm.ent with
      | bx i =>
        rw [hpm] at hfin
        obtain ⟨s2, e2, S2, m2, ys, g1, g2, g3, g4, g5, g6, g7, g8, g9⟩ := finL_ok pm.res rs f0 c1 hfin
        cases e2 with
        | some _ => simp at g1
        | none =>
          cases hget : get s2.h E0 with
          | none => rw [hget] at g1; simp at g1
          | some en =>
            rw [hget] at g1
            cases en with
            | box t y =>
              simp only at g1
              cases hrf : refL y with
              | some _ => rw [hrf] at g1; cases g1
              | none =>
                rw [hrf] at g1
                have hm2 : m2 = none := by
                  rcases g2.ent with ⟨_, h2⟩ | ⟨_, _, h1, _⟩
                  · exact h2
                  · cases h1
                subst hm2
                obtain ⟨mb, hmb, hen⟩ := g2.rel.ents E0 _ hget
                have hmm : m = some mb := by
                  have := g2.rel.ent _ hget
                  rw [hmb] at this
                  exact this.symm
                refine ⟨_, _, _, S2, m, g1, rfl, RepV.ofNone s1_none (one_ok (c2 g3 g9)), ?_, g2.rel.mono, hsrc S2 s2 σ' g2.rel, fun g hg => .inl hg, fun _ => rfl, g2.rel.fr⟩
                rw [hmm]
                exact ⟨mb, rfl, EntR.free (σ := σ') hrf hen, fun g hg => g2.rel.apart E0 _ mb g hget hmb hg⟩
            | _ => simp at g1
      | no => rw [hpm] at hfin; exact plainEnd hfin (fun i h => by rw [hpm] at h; cases h)
      | ln i j sh => rw [hpm] at hfin; exact plainEnd hfin (fun i h => by rw [hpm] at h; cases h)
  cases o with
  | normal => exact fin ho
  | ret => exact fin ho
  | exit id => cases ho
end
end Go.Proofs.Ytokeanadhihlfaa.V
