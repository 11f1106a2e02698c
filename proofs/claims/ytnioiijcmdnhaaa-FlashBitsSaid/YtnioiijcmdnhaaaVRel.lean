/-
  The evaluator's state and the model's ('Rel'). Plain theorems; no function of the program is named here.
-/
import Derived.Test.YtnioiijcmdnhaaaVSig
set_option linter.all false
namespace Go.Proofs.Ytnioiijcmdnhaaa.V
open Go Go.RowKit

/-- Since w0 nothing has changed but the blocks of F0 and what was made. -/
structure Fr (F0 : Nat → Prop) (w0 w : World) : Prop where
  os : w.os = w0.os
  tape : w.tape = w0.tape
  output : w.output = w0.output
  size : w0.heap.size ≤ w.heap.size
  block : ∀ k, k < w0.heap.size → ¬ F0 k → w.heap[k]? = w0.heap[k]?
/-- What a call was handed: the blocks that it may write; the memory of its name E0. -/
structure Fx where
  p : Nat → Prop
  m : Option Mb
  S0 : Nat → Prop
instance : CoeFun Fx (fun _ => Nat → Prop) := ⟨Fx.p⟩
theorem Fr.refl (F0 : Nat → Prop) (w : World) : Fr F0 w w := ⟨rfl, rfl, rfl, Nat.le_refl _, fun _ _ _ => rfl⟩

structure Rel (n : Nat) (F0 : Fx) (w0 : World) (σ : Sg) (S : Nat → Prop) (s : AS) (a : Act) (w : World) : Prop where
  small : n ≤ E0
  sz : a.tmps.size = n
  defers : a.defers = []
  slots : ∀ t x, get s.t t = some x → ∃ v, a.tmps[t]? = some v ∧ RepV w S σ x v
  ents : ∀ id e, get s.h id = some e → ∃ m, σ id = some m ∧ EntR w S σ e m
  inj : ∀ id id' e e' m m' g, get s.h id = some e → get s.h id' = some e' → σ id = some m → σ id' = some m' → m.g = some g → m'.g = some g → id = id'
  apart : ∀ id e m g, get s.h id = some e → σ id = some m → m.g = some g → ¬ S g
  old : ∀ id e m g, get s.h id = some e → σ id = some m → m.g = some g → g < w0.heap.size → F0 g
  Sold : ∀ b, S b → b < w.heap.size
  ent : ∀ e, get s.h E0 = some e → σ E0 = F0.m
  mono : ∀ b, F0.S0 b → S b
  src : ∀ b, S b → F0.S0 b ∨ w0.heap.size ≤ b ∨ F0 b
  fr : Fr F0.p w0 w

section
variable {n : Nat} {F0 : Fx} {w0 w w' : World} {σ σ' : Sg} {S S' : Nat → Prop} {s : AS} {a : Act}

theorem EntR.lt {e : AV} {m : Mb} {g : Nat} (h : EntR w S σ e m) (hg : m.g = some g) : g < w.heap.size := by
  cases e with
  | lini t k l => simp only [EntR] at h; obtain ⟨cur, hb, _⟩ := h.2.2.2.2.2.2 g hg; exact hb.lt
  | linr t T l => simp only [EntR] at h; obtain ⟨cur, css, hb, _⟩ := h.2.2.2.2.2 g hg; exact hb.lt
  | box t l => simp only [EntR] at h; obtain ⟨g', css, h1, _, _, _, _, _, _, hb⟩ := h; rw [h1] at hg; cases hg; exact hb.lt
  | ints f k l => simp only [EntR] at h; obtain ⟨o, ho⟩ := h.2.2.2.2.2.2 g hg; exact (Array.getElem?_eq_some_iff.1 ho).1
  | rs f T l => simp only [EntR] at h; obtain ⟨o, ho⟩ := h.2.2.2.2.2.2 g hg; exact (Array.getElem?_eq_some_iff.1 ho).1
  | _ => exact h.elim

theorem Act.put_get (a : Act) (d : Nat) (v : Value) (t : Nat) (hd : d < a.tmps.size) : (a.put (some d) v).tmps[t]? = if d = t then some v else a.tmps[t]? := by
  simp only [Act.put]
  by_cases h : d = t
  · subst h; simp [hd]
  · rw [Array.getElem?_setIfInBounds_ne h, if_neg h]

theorem shade_real {e y : AV} (h : shadeE e = some y) : real y = false := by
  cases e <;> simp only [shadeE] at h <;> cases h <;> rfl
theorem EntR.shade {e y : AV} {m : Mb} (h : EntR w S σ e m) (hs : shadeE e = some y) : EntR w S σ y m := by
  cases e with
  | lini t k l =>
    simp only [shadeE] at hs
    cases hs
    simp only [EntR] at h ⊢
    obtain ⟨h1, h2, h3, h4, h5, h6, h7⟩ := h
    exact ⟨h1, h2, h3, h4, h5, h6, fun g e => by obtain ⟨cur, a, _⟩ := h7 g e; exact ⟨_, a⟩⟩
  | linr t T l =>
    simp only [shadeE] at hs
    cases hs
    simp only [EntR] at h ⊢
    obtain ⟨h1, h2, h3, h4, h6, h7⟩ := h
    refine ⟨h1, h2, h3, h4, h6, ?_, fun g e => by obtain ⟨cur, css, a, _⟩ := h7 g e; exact ⟨_, a⟩⟩
    cases hg : m.g with
    | none =>
      have := h6 hg
      have : l = [] := List.eq_nil_of_length_eq_zero (by omega)
      subst this
      exact ⟨w, S, [], trivial⟩
    | some g => obtain ⟨cur, css, _, _, hr, _⟩ := h7 g hg; exact ⟨w, S, css, hr⟩
  | _ => simp [shadeE] at hs
theorem Rel.shade (h : Rel n F0 w0 σ S s a w) (hide : List Nat) : Rel n F0 w0 σ S ⟨s.t, V.shade hide s.h⟩ a w := by
  have key : ∀ i y, get (V.shade hide s.h) i = some y → ∃ e, get s.h i = some e := fun i y hy => by
    rcases get_shade hy with ⟨_, h1⟩ | ⟨_, e, h1, _⟩
    · exact ⟨y, h1⟩
    · exact ⟨e, h1⟩
  exact {
    small := h.small
    sz := h.sz
    defers := h.defers
    slots := h.slots
    ents := fun i y hy => by
      rcases get_shade hy with ⟨_, h1⟩ | ⟨_, e, h1, h2⟩
      · exact h.ents i y h1
      · obtain ⟨m, hm, he⟩ := h.ents i e h1
        exact ⟨m, hm, he.shade h2⟩
    inj := fun i j y z m m' g hi hj => by
      obtain ⟨e, he⟩ := key i y hi
      obtain ⟨e', he'⟩ := key j z hj
      exact h.inj i j e e' m m' g he he'
    apart := fun i y m g hi => by
      obtain ⟨e, he⟩ := key i y hi
      exact h.apart i e m g he
    old := fun i y m g hi => by
      obtain ⟨e, he⟩ := key i y hi
      exact h.old i e m g he
    Sold := h.Sold
    ent := fun y hy => by
      obtain ⟨e, he⟩ := key _ y hy
      exact h.ent e he
    mono := h.mono
    src := h.src
    fr := h.fr }
theorem Rel.tput (h : Rel n F0 w0 σ S s a w) {d : Nat} {x : AV} {v : Value} (hd : d < n) (hx : RepV w S σ x v) : Rel n F0 w0 σ S (s.tput d x) (a.put (some d) v) w where
  small := h.small
  sz := by rw [Act.put_size]; exact h.sz
  defers := h.defers
  slots := fun t y hy => by
    rw [Act.put_get a d v t (by rw [h.sz]; exact hd)]
    simp only [AS.tput, get_put] at hy
    by_cases e : d = t
    · rw [if_pos e] at hy ⊢; cases hy; exact ⟨v, rfl, hx⟩
    · rw [if_neg e] at hy ⊢; exact h.slots t y hy
  ents := h.ents
  inj := h.inj
  apart := h.apart
  old := h.old
  Sold := h.Sold
  ent := h.ent
  mono := h.mono
  src := h.src
  fr := h.fr
/-- A slot learns more of the value that it has. -/
theorem Rel.tset (h : Rel n F0 w0 σ S s a w) {d : Nat} {x : AV} {v : Value} (hv : a.tmps[d]? = some v) (hx : RepV w S σ x v) : Rel n F0 w0 σ S (s.tput d x) a w where
  small := h.small
  sz := h.sz
  defers := h.defers
  slots := fun t y hy => by
    simp only [AS.tput, get_put] at hy
    by_cases e : d = t
    · rw [if_pos e] at hy; cases hy; subst e; exact ⟨v, hv, hx⟩
    · rw [if_neg e] at hy; exact h.slots t y hy
  ents := h.ents
  inj := h.inj
  apart := h.apart
  old := h.old
  Sold := h.Sold
  ent := h.ent
  mono := h.mono
  src := h.src
  fr := h.fr
/-- Less is known. -/
theorem Rel.less (h : Rel n F0 w0 σ S s a w) {s' : AS} (ht : ∀ t x, get s'.t t = some x → get s.t t = some x) (hh : ∀ t x, get s'.h t = some x → get s.h t = some x) : Rel n F0 w0 σ S s' a w where
  small := h.small
  sz := h.sz
  defers := h.defers
  slots := fun t y hy => h.slots t y (ht t y hy)
  ents := fun id e he => h.ents id e (hh id e he)
  inj := fun id id' e e' m m' g h1 h2 => h.inj id id' e e' m m' g (hh _ _ h1) (hh _ _ h2)
  apart := fun id e m g h1 => h.apart id e m g (hh _ _ h1)
  old := fun id e m g h1 => h.old id e m g (hh _ _ h1)
  Sold := h.Sold
  ent := fun e he => h.ent e (hh _ _ he)
  mono := h.mono
  src := h.src
  fr := h.fr
theorem Rel.tmps (h : Rel n F0 w0 σ S s a w) {t : Nat} {x : AV} (hx : get s.t t = some x) : RepV w S σ x (a.tmps.getD t undef) := by
  obtain ⟨v, hv, hr⟩ := h.slots t x hx
  simp [hv]
  exact hr
/-- The name d is forgotten, and may mean other memory now. -/
theorem Rel.kill (h : Rel n F0 w0 σ S s a w) (d : Nat) (hσ : ∀ i, i ≠ d → σ' i = σ i) : Rel n F0 w0 σ' S (s.kill d) a w := by
  have key : ∀ id e, get (s.kill d).h id = some e → ∃ e0, id ≠ d ∧ get s.h id = some e0 ∧ e = killAV d e0 := by
    intro id e he
    simp only [AS.kill, get_emap, get_del] at he
    by_cases hd : d = id
    · rw [if_pos hd] at he; cases he
    · rw [if_neg hd] at he
      cases h0 : get s.h id with
      | none => rw [h0] at he; cases he
      | some e0 => rw [h0] at he; simp at he; exact ⟨e0, Ne.symm hd, rfl, he.symm⟩
  exact {
    small := h.small
    sz := h.sz
    defers := h.defers
    slots := fun t y hy => by
      simp only [AS.kill, get_emap] at hy
      cases h0 : get s.t t with
      | none => rw [h0] at hy; cases hy
      | some y0 =>
        rw [h0] at hy
        simp at hy
        subst hy
        obtain ⟨v, hv, hr⟩ := h.slots t y0 h0
        exact ⟨v, hv, hr.kill d hσ⟩
    ents := fun id e he => by
      obtain ⟨e0, hne, h0, rfl⟩ := key id e he
      obtain ⟨m, hm, hr⟩ := h.ents id e0 h0
      exact ⟨m, by rw [hσ id hne]; exact hm, hr.kill d hσ⟩
    inj := fun id id' e e' m m' g h1 h2 h3 h4 h5 h6 => by
      obtain ⟨e0, hne, h0, _⟩ := key id e h1
      obtain ⟨e1, hne1, h01, _⟩ := key id' e' h2
      rw [hσ _ hne] at h3
      rw [hσ _ hne1] at h4
      exact h.inj id id' e0 e1 m m' g h0 h01 h3 h4 h5 h6
    apart := fun id e m g h1 h3 h5 => by
      obtain ⟨e0, hne, h0, _⟩ := key id e h1
      rw [hσ _ hne] at h3
      exact h.apart id e0 m g h0 h3 h5
    old := fun id e m g h1 h3 h5 h6 => by
      obtain ⟨e0, hne, h0, _⟩ := key id e h1
      rw [hσ _ hne] at h3
      exact h.old id e0 m g h0 h3 h5 h6
    Sold := h.Sold
    ent := fun e he => by
      obtain ⟨e0, hne, h0, _⟩ := key E0 e he
      rw [hσ _ hne]
      exact h.ent e0 h0
    mono := h.mono
    src := h.src
    fr := h.fr }
/-- The memory of 'id' is no longer written. -/
theorem Rel.frz (h : Rel n F0 w0 σ S s a w) {id : Nat} {e : AV} {m : Mb} (he : get s.h id = some e) (hm : σ id = some m) (hl : (∃ t k l, e = .lini t k l) ∨ ∃ t T l, e = .linr t T l) :
    Rel n F0 w0 σ (fun b => S b ∨ m.g = some b) (s.frz id e) a w := by
  obtain ⟨m', hm', hr⟩ := h.ents id e he
  rw [hm] at hm'
  cases hm'
  have hS : ∀ b, S b → (S b ∨ m.g = some b) := fun b hb => .inl hb
  have hg : ∀ g, m.g = some g → (S g ∨ m.g = some g) := fun g hg => .inr hg
  have key : ∀ i y, get (s.frz id e).h i = some y → ∃ e0, i ≠ id ∧ get s.h i = some e0 ∧ y = frzAV id e e0 := by
    intro i y hy
    simp only [AS.frz, get_emap, get_del] at hy
    by_cases hd : id = i
    · rw [if_pos hd] at hy; cases hy
    · rw [if_neg hd] at hy
      cases h0 : get s.h i with
      | none => rw [h0] at hy; cases hy
      | some e0 => rw [h0] at hy; simp at hy; exact ⟨e0, Ne.symm hd, rfl, hy.symm⟩
  exact {
    small := h.small
    sz := h.sz
    defers := h.defers
    slots := fun t y hy => by
      simp only [AS.frz, get_emap] at hy
      cases h0 : get s.t t with
      | none => rw [h0] at hy; cases hy
      | some y0 =>
        rw [h0] at hy
        simp at hy
        subst hy
        obtain ⟨v, hv, hr0⟩ := h.slots t y0 h0
        exact ⟨v, hv, hr0.frz hm hr hl hS hg⟩
    ents := fun i y hy => by
      obtain ⟨e0, hne, h0, rfl⟩ := key i y hy
      obtain ⟨m1, hm1, hr1⟩ := h.ents i e0 h0
      exact ⟨m1, hm1, EntR.frz hm hr hl hS hg hr1⟩
    inj := fun i i' y y' m1 m2 g h1 h2 h3 h4 h5 h6 => by
      obtain ⟨e0, hne, h0, _⟩ := key i y h1
      obtain ⟨e1, hne1, h01, _⟩ := key i' y' h2
      exact h.inj i i' e0 e1 m1 m2 g h0 h01 h3 h4 h5 h6
    apart := fun i y m1 g h1 h3 h5 hs => by
      obtain ⟨e0, hne, h0, _⟩ := key i y h1
      rcases hs with hs | hs
      · exact h.apart i e0 m1 g h0 h3 h5 hs
      · exact hne (h.inj i id e0 e m1 m g h0 he h3 hm h5 hs)
    old := fun i y m1 g h1 h3 h5 h6 => by
      obtain ⟨e0, hne, h0, _⟩ := key i y h1
      exact h.old i e0 m1 g h0 h3 h5 h6
    Sold := fun b hb => by
      rcases hb with hb | hb
      · exact h.Sold b hb
      · exact hr.lt hb
    ent := fun e1 he1 => by
      obtain ⟨e0, hne, h0, _⟩ := key E0 e1 he1
      exact h.ent e0 h0
    mono := fun b hb => .inl (h.mono b hb)
    src := fun b hb => by
      rcases hb with hb | hb
      · exact h.src b hb
      · rcases Nat.lt_or_ge b w0.heap.size with hlt | hge
        · exact .inr (.inr (h.old id e m b he hm hb hlt))
        · exact .inr (.inl hge)
    fr := h.fr }
def delO (h : Env) : Option Nat → Env
  | some i => del h i
  | none => h
/-- The world has changed in the block of 'id' alone (and in what was made); 'id' is known no more. -/
theorem Rel.chg (h : Rel n F0 w0 σ S s a w) {id : Option Nat} (hfr : Fr (fun k => ∃ i e m, id = some i ∧ get s.h i = some e ∧ σ i = some m ∧ m.g = some k) w w') :
    Rel n F0 w0 σ S ⟨s.t, delO s.h id⟩ a w' := by
  have hk : ∀ b o, S b → w'.cell? ⟨b, o, none⟩ = w.cell? ⟨b, o, none⟩ := by
    intro b o hb
    have : w'.heap[b]? = w.heap[b]? := hfr.block b (h.Sold b hb) (fun ⟨i, e, m, _, h1, h2, h3⟩ => h.apart i e m b h1 h2 h3 hb)
    simp [World.cell?, this]
  have key : ∀ i y, get (delO s.h id) i = some y → get s.h i = some y ∧ id ≠ some i := by
    intro i y hy
    cases id with
    | none => exact ⟨hy, by simp⟩
    | some j =>
      simp only [delO, get_del] at hy
      by_cases e : j = i
      · rw [if_pos e] at hy; cases hy
      · rw [if_neg e] at hy; exact ⟨hy, by simpa using e⟩
  exact {
    small := h.small
    sz := h.sz
    defers := h.defers
    slots := fun t y hy => by
      obtain ⟨v, hv, hr⟩ := h.slots t y hy
      exact ⟨v, hv, hr.keep hk fun _ h => h⟩
    ents := fun i y hy => by
      obtain ⟨h0, hne⟩ := key i y hy
      obtain ⟨m, hm, hr⟩ := h.ents i y h0
      refine ⟨m, hm, hr.keep hk (fun _ h => h) fun g hg => hfr.block g (hr.lt hg) ?_⟩
      rintro ⟨j, e, m', rfl, h1, h2, h3⟩
      exact hne (by rw [h.inj j i e y m' m g h1 h0 h2 hm h3 hg])
    inj := fun i i' y y' m1 m2 g h1 h2 => h.inj i i' y y' m1 m2 g (key i y h1).1 (key i' y' h2).1
    apart := fun i y m1 g h1 => h.apart i y m1 g (key i y h1).1
    old := fun i y m1 g h1 => h.old i y m1 g (key i y h1).1
    Sold := fun b hb => Nat.lt_of_lt_of_le (h.Sold b hb) hfr.size
    ent := fun e he => h.ent e (key E0 e he).1
    mono := h.mono
    src := h.src
    fr := ⟨hfr.os.trans h.fr.os, hfr.tape.trans h.fr.tape, hfr.output.trans h.fr.output, Nat.le_trans h.fr.size hfr.size, fun k hk0 hF => by
      refine (hfr.block k (Nat.lt_of_lt_of_le hk0 h.fr.size) ?_).trans (h.fr.block k hk0 hF)
      rintro ⟨i, e, m, _, h1, h2, h3⟩
      exact hF (h.old i e m k h1 h2 h3 hk0)⟩ }
/-- New memory under the name d. -/
theorem Rel.add (h : Rel n F0 w0 σ S s a w) {d : Nat} (hdE : d ≠ E0) {e : AV} {m : Mb} (he : EntR w S (upd σ d m) e m)
    (hg : ∀ g, m.g = some g → ¬ S g ∧ (g < w0.heap.size → F0 g) ∧ ∀ i y m', get s.h i = some y → i ≠ d → σ i = some m' → m'.g ≠ some g) :
    Rel n F0 w0 (upd σ d m) S ((s.kill d).hput d e) a w := by
  have h1 := h.kill (σ' := upd σ d m) d (fun i hi => by simp [upd, hi])
  have key : ∀ i y, get ((s.kill d).hput d e).h i = some y → (i = d ∧ y = e) ∨ (i ≠ d ∧ get (s.kill d).h i = some y) := by
    intro i y hy
    simp only [AS.hput, get_put] at hy
    by_cases hd : d = i
    · rw [if_pos hd] at hy; cases hy; exact .inl ⟨hd.symm, rfl⟩
    · rw [if_neg hd] at hy; exact .inr ⟨Ne.symm hd, hy⟩
  have kk : ∀ i y, get (s.kill d).h i = some y → ∃ y0, get s.h i = some y0 := by
    intro i y hy
    simp only [AS.kill, get_emap, get_del] at hy
    by_cases hd : d = i
    · rw [if_pos hd] at hy; cases hy
    · rw [if_neg hd] at hy
      cases h0 : get s.h i with
      | none => rw [h0] at hy; cases hy
      | some y0 => exact ⟨y0, rfl⟩
  have ud : upd σ d m d = some m := by simp [upd]
  exact {
    small := h1.small
    sz := h1.sz
    defers := h1.defers
    slots := h1.slots
    ents := fun i y hy => by
      rcases key i y hy with ⟨rfl, rfl⟩ | ⟨hne, h0⟩
      · exact ⟨m, ud, he⟩
      · exact h1.ents i y h0
    inj := fun i i' y y' m1 m2 g g1 g2 g3 g4 g5 g6 => by
      rcases key i y g1 with ⟨rfl, rfl⟩ | ⟨hne, h0⟩ <;> rcases key i' y' g2 with ⟨rfl, rfl⟩ | ⟨hne', h0'⟩
      · rfl
      · rw [ud] at g3; cases g3
        obtain ⟨y0, hy0⟩ := kk i' y' h0'
        exact absurd g6 ((hg g g5).2.2 i' y0 m2 hy0 hne' (by simpa [upd, hne'] using g4))
      · rw [ud] at g4; cases g4
        obtain ⟨y0, hy0⟩ := kk i y h0
        exact absurd g5 ((hg g g6).2.2 i y0 m1 hy0 hne (by simpa [upd, hne] using g3))
      · exact h1.inj i i' y y' m1 m2 g h0 h0' g3 g4 g5 g6
    apart := fun i y m1 g g1 g3 g5 => by
      rcases key i y g1 with ⟨rfl, rfl⟩ | ⟨hne, h0⟩
      · rw [ud] at g3; cases g3; exact (hg g g5).1
      · exact h1.apart i y m1 g h0 g3 g5
    old := fun i y m1 g g1 g3 g5 => by
      rcases key i y g1 with ⟨rfl, rfl⟩ | ⟨hne, h0⟩
      · rw [ud] at g3; cases g3; exact (hg g g5).2.1
      · exact h1.old i y m1 g h0 g3 g5
    Sold := h1.Sold
    ent := fun e1 he1 => by
      rcases key E0 e1 he1 with ⟨h0, _⟩ | ⟨_, h0⟩
      · exact absurd h0.symm hdE
      · exact h1.ent e1 h0
    mono := h1.mono
    src := h1.src
    fr := h1.fr }
/-- The memory of a name, written. -/
theorem Rel.wrote {id : Nat} (h : Rel n F0 w0 σ S ⟨s.t, del s.h id⟩ a w) (hent : id = E0 → σ E0 = F0.m) {e : AV} {m : Mb} (hm : σ id = some m) (he : EntR w S σ e m)
    (hg : ∀ g, m.g = some g → ¬ S g ∧ (g < w0.heap.size → F0 g) ∧ ∀ i y m', get s.h i = some y → i ≠ id → σ i = some m' → m'.g ≠ some g) :
    Rel n F0 w0 σ S (s.hput id e) a w := by
  have key : ∀ i y, get (s.hput id e).h i = some y → (i = id ∧ y = e) ∨ (i ≠ id ∧ get s.h i = some y ∧ get (del s.h id) i = some y) := by
    intro i y hy
    simp only [AS.hput, get_put] at hy
    by_cases hd : id = i
    · rw [if_pos hd] at hy; cases hy; exact .inl ⟨hd.symm, rfl⟩
    · rw [if_neg hd] at hy; exact .inr ⟨Ne.symm hd, hy, by rw [get_del, if_neg hd]; exact hy⟩
  exact {
    small := h.small
    sz := h.sz
    defers := h.defers
    slots := h.slots
    ents := fun i y hy => by
      rcases key i y hy with ⟨rfl, rfl⟩ | ⟨hne, _, h0⟩
      · exact ⟨m, hm, he⟩
      · exact h.ents i y h0
    inj := fun i i' y y' m1 m2 g g1 g2 g3 g4 g5 g6 => by
      rcases key i y g1 with ⟨rfl, rfl⟩ | ⟨hne, h0, h1⟩ <;> rcases key i' y' g2 with ⟨rfl, rfl⟩ | ⟨hne', h0', h1'⟩
      · rfl
      · rw [hm] at g3; cases g3
        exact absurd g6 ((hg g g5).2.2 i' y' m2 h0' hne' g4)
      · rw [hm] at g4; cases g4
        exact absurd g5 ((hg g g6).2.2 i y m1 h0 hne g3)
      · exact h.inj i i' y y' m1 m2 g h1 h1' g3 g4 g5 g6
    apart := fun i y m1 g g1 g3 g5 => by
      rcases key i y g1 with ⟨rfl, rfl⟩ | ⟨hne, _, h0⟩
      · rw [hm] at g3; cases g3; exact (hg g g5).1
      · exact h.apart i y m1 g h0 g3 g5
    old := fun i y m1 g g1 g3 g5 => by
      rcases key i y g1 with ⟨rfl, rfl⟩ | ⟨hne, _, h0⟩
      · rw [hm] at g3; cases g3; exact (hg g g5).2.1
      · exact h.old i y m1 g h0 g3 g5
    Sold := h.Sold
    ent := fun e1 he1 => by
      rcases key E0 e1 he1 with ⟨h0, _⟩ | ⟨_, _, h0⟩
      · exact hent h0.symm
      · exact h.ent e1 h0
    mono := h.mono
    src := h.src
    fr := h.fr }
end
end Go.Proofs.Ytnioiijcmdnhaaa.V
