/-
  Names: that they may be forgotten, renamed, and read for good. Plain theorems; no function of the program is named here.
-/
import Derived.Test.YtnioiijcmdnhaaaVRep
set_option linter.all false
namespace Go.Proofs.Ytnioiijcmdnhaaa.V
open Go Go.RowKit

section
variable {w w' : World} {S S' : Nat → Prop} {σ σ' : Sg}
mutual
theorem Rep.kill (d : Nat) (hσ : ∀ i, i ≠ d → σ' i = σ i) : ∀ (x : AV) (cs : List Value), Rep w S σ x cs → Rep w S σ' (killAV d x) cs := by
  intro x cs h
  cases x with
  | ownf i =>
    simp only [killAV]
    cases hb : Nat.beq i d with
    | true => simp only [Rep] at h ⊢; obtain ⟨m, _, rfl⟩ := h; exact ⟨_, rfl, rfl⟩
    | false => simp only [Rep] at h ⊢; rw [hσ i (beq_false hb)]; exact h
  | own i o l =>
    simp only [killAV]
    cases hb : Nat.beq i d with
    | true => simp only [Rep] at h ⊢; obtain ⟨m, A, _, rfl, _⟩ := h; exact ⟨_, rfl, rfl⟩
    | false => simp only [Rep] at h ⊢; rw [hσ i (beq_false hb)]; exact h
  | ptr i o l =>
    simp only [killAV]
    cases hb : Nat.beq i d with
    | true => simp only [Rep] at h ⊢; obtain ⟨m, g, _, _, rfl⟩ := h; exact ⟨_, rfl, rfl⟩
    | false => simp only [Rep] at h ⊢; rw [hσ i (beq_false hb)]; exact h
  | agg l => simp only [killAV, Rep] at h ⊢; obtain ⟨css, h1, h2⟩ := h; exact ⟨css, RepL.kill d hσ l css h1, h2⟩
  | _ => simp only [killAV]; (simp only [Rep] at h ⊢) <;> exact h
theorem RepL.kill (d : Nat) (hσ : ∀ i, i ≠ d → σ' i = σ i) : ∀ (l : List AV) (css : List (List Value)), RepL w S σ l css → RepL w S σ' (killL d l) css := by
  intro l css h
  cases l with
  | nil => simp only [killL, RepL] at h ⊢; exact h
  | cons x l =>
    simp only [killL, RepL] at h ⊢
    obtain ⟨cs, css', e, h1, h2⟩ := h
    exact ⟨cs, css', e, Rep.kill d hσ x cs h1, RepL.kill d hσ l css' h2⟩
end
theorem killL_cnt (d : Nat) : ∀ l : List AV, cnt (killL d l) = cnt l
  | [] => rfl
  | _ :: l => by simp [killL, cnt, killL_cnt d l]
theorem RepV0.kill (d : Nat) (hσ : ∀ i, i ≠ d → σ' i = σ i) {x : AV} {v : Value} (h : RepV0 w S σ x v) : RepV0 w S σ' (killAV d x) v := by
  cases x with
  | agg l => simp only [RepV0, killAV] at h ⊢; obtain ⟨cs, e, h1⟩ := h; exact ⟨cs, e, by have := Rep.kill d hσ _ _ h1; simpa only [killAV] using this⟩
  | ownf i => have := Rep.kill d hσ _ _ h; simp only [killAV] at this ⊢; cases hb : Nat.beq i d <;> (rw [hb] at this; exact this)
  | own i o l => have := Rep.kill d hσ _ _ h; simp only [killAV] at this ⊢; cases hb : Nat.beq i d <;> (rw [hb] at this; exact this)
  | ptr i o l => have := Rep.kill d hσ _ _ h; simp only [killAV] at this ⊢; cases hb : Nat.beq i d <;> (rw [hb] at this; exact this)
  | _ => exact Rep.kill d hσ _ _ h
theorem RepVL.kill (d : Nat) (hσ : ∀ i, i ≠ d → σ' i = σ i) : ∀ {l : List AV} {vs : List Value}, RepVL w S σ l vs → RepVL w S σ' (killL d l) vs
  | [], _, h => h
  | _ :: _, _, ⟨v, vs', e, h1, h2⟩ => ⟨v, vs', e, h1.kill d hσ, RepVL.kill d hσ h2⟩
theorem RepV.kill (d : Nat) (hσ : ∀ i, i ≠ d → σ' i = σ i) {x : AV} {v : Value} (h : RepV w S σ x v) : RepV w S σ' (killAV d x) v := by
  cases x with
  | tup l => simp only [RepV, killAV] at h ⊢; obtain ⟨vs, e, h1⟩ := h; exact ⟨vs, e, h1.kill d hσ⟩
  | undef => exact h
  | agg l => exact RepV0.kill (w := w) (S := S) d hσ (x := .agg l) h
  | ownf i => have := RepV0.kill (w := w) (S := S) d hσ (x := .ownf i) h; simp only [killAV] at this ⊢; cases hb : Nat.beq i d <;> (rw [hb] at this; exact this)
  | own i o l => have := RepV0.kill (w := w) (S := S) d hσ (x := .own i o l) h; simp only [killAV] at this ⊢; cases hb : Nat.beq i d <;> (rw [hb] at this; exact this)
  | ptr i o l => have := RepV0.kill (w := w) (S := S) d hσ (x := .ptr i o l) h; simp only [killAV] at this ⊢; cases hb : Nat.beq i d <;> (rw [hb] at this; exact this)
  | box t l => simp only [RepV, RepV0, Rep] at h
  | _ => (simp only [RepV, killAV] at h ⊢) <;> exact RepV0.kill (w := w) (S := S) d hσ h
theorem EntR.kill (d : Nat) (hσ : ∀ i, i ≠ d → σ' i = σ i) {e : AV} {m : Mb} (h : EntR w S σ e m) : EntR w S σ' (killAV d e) m := by
  cases e with
  | box t l =>
    simp only [killAV, EntR] at h ⊢
    obtain ⟨g, css, h1, h2, h3, h4, h5, h6, h7, h8⟩ := h
    exact ⟨g, css, h1, h2, by rw [killL_cnt]; exact h3, by rw [killL_cnt]; exact h4, by rw [killL_cnt]; exact h5, RepL.kill d hσ _ _ h6, h7, h8⟩
  | lini t k l => exact h
  | linr t T l => exact h
  | ints f k l => exact h
  | rs f T l => exact h
  | _ => exact h.elim

/-- Values without names stand under any names. -/
theorem ref_cons {x : AV} {l : List AV} (h : refL (x :: l) = none) : refAV x = none ∧ refL l = none := by
  simp only [refL] at h
  cases hx : refAV x with
  | none => rw [hx] at h; exact ⟨rfl, h⟩
  | some i => rw [hx] at h; cases h
mutual
theorem Rep.free : ∀ (x : AV) (cs : List Value), refAV x = none → Rep w S σ x cs → Rep w S σ' x cs := by
  intro x cs hr h
  cases x with
  | agg l => simp only [refAV, Rep] at hr h ⊢; obtain ⟨css, h1, h2⟩ := h; exact ⟨css, RepL.free l css hr h1, h2⟩
  | ownf i => simp [refAV] at hr
  | own i o l => simp [refAV] at hr
  | ptr i o l => simp [refAV] at hr
  | _ => (simp only [Rep] at h ⊢) <;> exact h
theorem RepL.free : ∀ (l : List AV) (css : List (List Value)), refL l = none → RepL w S σ l css → RepL w S σ' l css := by
  intro l css hr h
  cases l with
  | nil => simp only [RepL] at h ⊢; exact h
  | cons x l =>
    obtain ⟨r1, r2⟩ := ref_cons hr
    simp only [RepL] at h ⊢
    obtain ⟨cs, css', e, h1, h2⟩ := h
    exact ⟨cs, css', e, Rep.free x cs r1 h1, RepL.free l css' r2 h2⟩
end
theorem RepV0.free {x : AV} {v : Value} (hr : refAV x = none) (h : RepV0 w S σ x v) : RepV0 w S σ' x v := by
  cases x with
  | agg l => simp only [RepV0] at h ⊢; obtain ⟨cs, e, h1⟩ := h; exact ⟨cs, e, Rep.free _ _ hr h1⟩
  | _ => exact Rep.free (σ := σ) _ _ hr h
theorem RepVL.free : ∀ {l : List AV} {vs : List Value}, refL l = none → RepVL w S σ l vs → RepVL w S σ' l vs
  | [], _, _, h => h
  | _ :: _, _, hr, ⟨v, vs', e, h1, h2⟩ => ⟨v, vs', e, h1.free (ref_cons hr).1, RepVL.free (ref_cons hr).2 h2⟩
theorem RepV.free {x : AV} {v : Value} (hr : refAV x = none) (h : RepV w S σ x v) : RepV w S σ' x v := by
  cases x with
  | tup l => simp only [RepV] at h ⊢; obtain ⟨vs, e, h1⟩ := h; exact ⟨vs, e, h1.free (by simpa only [refAV] using hr)⟩
  | undef => exact h
  | _ => (simp only [RepV] at h ⊢) <;> exact RepV0.free (w := w) (S := S) hr h

/-! ### one name becomes another -/
def s1 (m : Option Mb) : Sg := fun i => if i = E0 then m else none
mutual
theorem Rep.ren {m : Option Mb} (n : Nat) (hσ : σ' n = m) : ∀ (x : AV) (cs : List Value), Rep w S (s1 m) x cs → Rep w S σ' (renAV E0 n x) cs := by
  intro x cs h
  cases x with
  | ownf i =>
    simp only [renAV]
    cases hb : Nat.beq i E0 with
    | true => have := beq_true hb; subst this; simp only [Rep, s1, if_true] at h ⊢; rw [hσ]; exact h
    | false => simp only [Rep, s1, if_neg (beq_false hb)] at h; obtain ⟨_, h, _⟩ := h; cases h
  | own i o l =>
    simp only [renAV]
    cases hb : Nat.beq i E0 with
    | true => have := beq_true hb; subst this; simp only [Rep, s1, if_true] at h ⊢; rw [hσ]; exact h
    | false => simp only [Rep, s1, if_neg (beq_false hb)] at h; obtain ⟨_, _, h, _⟩ := h; cases h
  | ptr i o l =>
    simp only [renAV]
    cases hb : Nat.beq i E0 with
    | true => have := beq_true hb; subst this; simp only [Rep, s1, if_true] at h ⊢; rw [hσ]; exact h
    | false => simp only [Rep, s1, if_neg (beq_false hb)] at h; obtain ⟨_, _, h, _⟩ := h; cases h
  | agg l => simp only [renAV, Rep] at h ⊢; obtain ⟨css, h1, h2⟩ := h; exact ⟨css, RepL.ren n hσ l css h1, h2⟩
  | _ => simp only [renAV]; (simp only [Rep] at h ⊢) <;> exact h
theorem RepL.ren {m : Option Mb} (n : Nat) (hσ : σ' n = m) : ∀ (l : List AV) (css : List (List Value)), RepL w S (s1 m) l css → RepL w S σ' (renL E0 n l) css := by
  intro l css h
  cases l with
  | nil => simp only [renL, RepL] at h ⊢; exact h
  | cons x l =>
    simp only [renL, RepL] at h ⊢
    obtain ⟨cs, css', e, h1, h2⟩ := h
    exact ⟨cs, css', e, Rep.ren n hσ x cs h1, RepL.ren n hσ l css' h2⟩
end
theorem RepV0.ren {m : Option Mb} (n : Nat) (hσ : σ' n = m) {x : AV} {v : Value} (h : RepV0 w S (s1 m) x v) : RepV0 w S σ' (renAV E0 n x) v := by
  cases x with
  | agg l => simp only [RepV0, renAV] at h ⊢; obtain ⟨cs, e, h1⟩ := h; exact ⟨cs, e, by have := Rep.ren n hσ _ _ h1; simpa only [renAV] using this⟩
  | ownf i => have := Rep.ren n hσ _ _ h; simp only [renAV] at this ⊢; cases hb : Nat.beq i E0 <;> (rw [hb] at this; exact this)
  | own i o l => have := Rep.ren n hσ _ _ h; simp only [renAV] at this ⊢; cases hb : Nat.beq i E0 <;> (rw [hb] at this; exact this)
  | ptr i o l => have := Rep.ren n hσ _ _ h; simp only [renAV] at this ⊢; cases hb : Nat.beq i E0 <;> (rw [hb] at this; exact this)
  | _ => exact Rep.ren n hσ _ _ h
theorem RepVL.ren {m : Option Mb} (n : Nat) (hσ : σ' n = m) : ∀ {l : List AV} {vs : List Value}, RepVL w S (s1 m) l vs → RepVL w S σ' (renL E0 n l) vs
  | [], _, h => h
  | _ :: _, _, ⟨v, vs', e, h1, h2⟩ => ⟨v, vs', e, h1.ren n hσ, RepVL.ren n hσ h2⟩
theorem RepV.ren {m : Option Mb} (n : Nat) (hσ : σ' n = m) {x : AV} {v : Value} (h : RepV w S (s1 m) x v) : RepV w S σ' (renAV E0 n x) v := by
  cases x with
  | tup l => simp only [RepV, renAV] at h ⊢; obtain ⟨vs, e, h1⟩ := h; exact ⟨vs, e, h1.ren n hσ⟩
  | undef => exact h
  | agg l => exact RepV0.ren (w := w) (S := S) n hσ (x := .agg l) h
  | ownf i => have := RepV0.ren (w := w) (S := S) n hσ (x := .ownf i) h; simp only [renAV] at this ⊢; cases hb : Nat.beq i E0 <;> (rw [hb] at this; exact this)
  | own i o l => have := RepV0.ren (w := w) (S := S) n hσ (x := .own i o l) h; simp only [renAV] at this ⊢; cases hb : Nat.beq i E0 <;> (rw [hb] at this; exact this)
  | ptr i o l => have := RepV0.ren (w := w) (S := S) n hσ (x := .ptr i o l) h; simp only [renAV] at this ⊢; cases hb : Nat.beq i E0 <;> (rw [hb] at this; exact this)
  | box t l => simp only [RepV, RepV0, Rep] at h
  | _ => (simp only [RepV, renAV] at h ⊢) <;> exact RepV0.ren (w := w) (S := S) n hσ h

/-! ### memory that is no longer written -/
theorem lini_row {t : TypeId} {k : IntKind} {l : List Int} {m : Mb} (h : EntR w S σ (.lini t k l) m) (off len : Nat) (hol : off + len ≤ m.n) :
    Row w (fun b => m.g = some b) (m.addr off) (((l.drop off).take len).map (Value.int k)) := by
  intro hne
  simp only [EntR] at h
  obtain ⟨h1, h2, h3, h4, h5, h6, h7⟩ := h
  cases hg : m.g with
  | none =>
    have := h6 hg
    have h0 : l = [] := List.eq_nil_of_length_eq_zero (by omega)
    subst h0
    simp at hne
  | some g =>
    obtain ⟨cur, hb, hc, ht⟩ := h7 g hg
    refine ⟨g, off * m.es, by simp [Mb.addr, hg], rfl, fun j v hv => ?_⟩
    rw [hb.cell]
    rw [List.getElem?_map, List.getElem?_take] at hv
    split at hv
    · rename_i hj
      rw [List.getElem?_drop, ← List.getElem?_map, ← ht] at hv
      rw [List.getElem?_take] at hv
      split at hv
      · rw [h1, Nat.mul_one]
        simpa using hv
      · cases hv
    · simp at hv
theorem RecRep.len {T : Nat} {r : Rec} {cs : List Value} (h : RecRep w S T r cs) : cs.length = esz T := by
  cases T with
  | zero => obtain ⟨A, c, e, _⟩ := h; rw [e]; rfl
  | succ T => obtain ⟨A, c, e, _⟩ := h; rw [e]; rfl
theorem RecRep.one {T : Nat} {r : Rec} {cs : List Value} (h : RecRep w S T r cs) : ∀ u ∈ cs, u.oneCell' = true := by
  cases T with
  | zero => obtain ⟨A, c, e, _⟩ := h; subst e; intro u hu; simp at hu; rcases hu with rfl | rfl | rfl | rfl | rfl | rfl <;> rfl
  | succ T => obtain ⟨A, c, e, _⟩ := h; subst e; intro u hu; simp at hu; subst hu; rfl
theorem RecsRep.len {T : Nat} : ∀ {l : List Rec} {css : List (List Value)}, RecsRep w S T l css → css.length = l.length
  | [], [], _ => rfl
  | _ :: _, _ :: _, h => by simp [RecsRep.len h.2]
  | [], _ :: _, h => h.elim
  | _ :: _, [], h => h.elim
theorem RecsRep.es {T : Nat} : ∀ {l : List Rec} {css : List (List Value)}, RecsRep w S T l css → ∀ cs ∈ css, cs.length = esz T
  | [], [], _ => by simp
  | _ :: _, _ :: _, h => by
    intro cs hcs
    rcases List.mem_cons.1 hcs with rfl | hcs
    · exact h.1.len
    · exact RecsRep.es h.2 cs hcs
  | [], _ :: _, h => h.elim
  | _ :: _, [], h => h.elim
theorem RecsRep.one {T : Nat} : ∀ {l : List Rec} {css : List (List Value)}, RecsRep w S T l css → ∀ u ∈ css.flatten, u.oneCell' = true
  | [], [], _ => by simp
  | _ :: _, _ :: _, h => by
    intro u hu
    rw [List.flatten_cons] at hu
    rcases List.mem_append.1 hu with hu | hu
    · exact h.1.one u hu
    · exact RecsRep.one h.2 u hu
  | [], _ :: _, h => h.elim
  | _ :: _, [], h => h.elim
theorem RecsRep.drop {T : Nat} : ∀ (n : Nat) {l : List Rec} {css : List (List Value)}, RecsRep w S T l css → RecsRep w S T (l.drop n) (css.drop n)
  | 0, l, css, h => by simpa using h
  | n + 1, [], [], _ => by simp [RecsRep]
  | n + 1, _ :: _, _ :: _, h => by simpa using RecsRep.drop n h.2
  | _ + 1, [], _ :: _, h => h.elim
  | _ + 1, _ :: _, [], h => h.elim
theorem RecsRep.take {T : Nat} : ∀ (n : Nat) {l : List Rec} {css : List (List Value)}, RecsRep w S T l css → RecsRep w S T (l.take n) (css.take n)
  | 0, l, css, h => by simp [RecsRep]
  | n + 1, [], [], _ => by simp [RecsRep]
  | n + 1, _ :: _, _ :: _, h => by simp only [List.take_succ_cons]; exact ⟨h.1, RecsRep.take n h.2⟩
  | _ + 1, [], _ :: _, h => h.elim
  | _ + 1, _ :: _, [], h => h.elim
theorem RecsRep.append {T : Nat} : ∀ {l l' : List Rec} {css css' : List (List Value)}, RecsRep w S T l css → RecsRep w S T l' css' → RecsRep w S T (l ++ l') (css ++ css')
  | [], _, [], _, _, h => h
  | _ :: _, _, _ :: _, _, h, h' => ⟨h.1, RecsRep.append h.2 h'⟩
  | [], _, _ :: _, _, h, _ => h.elim
  | _ :: _, _, [], _, h, _ => h.elim
theorem RecsRep.at_ {T : Nat} : ∀ {l : List Rec} {css : List (List Value)} (i : Nat), RecsRep w S T l css → i < l.length → ∃ cs, css[i]? = some cs ∧ RecRep w S T (l.getD i default) cs
  | [], [], i, _, h => by simp at h
  | r :: _, cs :: _, 0, h, _ => ⟨cs, rfl, h.1⟩
  | r :: _, cs :: _, i + 1, h, hi => by
    obtain ⟨cs', h1, h2⟩ := RecsRep.at_ i h.2 (by simpa using hi)
    exact ⟨cs', by simpa using h1, by simpa using h2⟩
  | [], _ :: _, _, h, _ => h.elim
  | _ :: _, [], _, h, _ => h.elim
theorem RecsRep.set {T : Nat} : ∀ {l : List Rec} {css : List (List Value)} (i : Nat) {r : Rec} {cs : List Value}, RecsRep w S T l css → RecRep w S T r cs → RecsRep w S T (l.set i r) (css.set i cs)
  | [], [], i, _, _, _, _ => by simp [RecsRep]
  | _ :: _, _ :: _, 0, _, _, h, h' => ⟨h', h.2⟩
  | _ :: _, _ :: _, i + 1, _, _, h, h' => ⟨h.1, RecsRep.set i h.2 h'⟩
  | [], _ :: _, _, _, _, h, _ => h.elim
  | _ :: _, [], _, _, _, h, _ => h.elim
theorem flat_drop {α : Type} (es : Nat) : ∀ (n : Nat) (css : List (List α)), (∀ cs ∈ css, cs.length = es) → css.flatten.drop (n * es) = (css.drop n).flatten
  | 0, css, _ => by simp
  | n + 1, [], _ => by simp
  | n + 1, cs :: css, h => by
    have h1 : cs.length = es := h cs (List.mem_cons_self ..)
    rw [List.flatten_cons, List.drop_succ_cons, ← flat_drop es n css (fun c hc => h c (List.mem_cons_of_mem _ hc)), Nat.succ_mul, List.drop_append, List.drop_eq_nil_of_le (by omega), List.nil_append]
    congr 1
    omega
theorem flat_take {α : Type} (es : Nat) : ∀ (n : Nat) (css : List (List α)), (∀ cs ∈ css, cs.length = es) → css.flatten.take (n * es) = (css.take n).flatten
  | 0, css, _ => by simp
  | n + 1, [], _ => by simp
  | n + 1, cs :: css, h => by
    have h1 : cs.length = es := h cs (List.mem_cons_self ..)
    rw [List.flatten_cons, List.take_succ_cons, List.flatten_cons, ← flat_take es n css (fun c hc => h c (List.mem_cons_of_mem _ hc)), Nat.succ_mul, List.take_append, List.take_of_length_le (by omega)]
    congr 2
    omega
theorem flat_len {α : Type} (es : Nat) : ∀ (css : List (List α)), (∀ cs ∈ css, cs.length = es) → css.flatten.length = css.length * es
  | [], _ => by simp
  | cs :: css, h => by
    rw [List.flatten_cons, List.length_append, flat_len es css (fun c hc => h c (List.mem_cons_of_mem _ hc)), h cs (List.mem_cons_self ..), List.length_cons, Nat.succ_mul, Nat.add_comm]
theorem flat_at {α : Type} (es : Nat) (css : List (List α)) (h : ∀ cs ∈ css, cs.length = es) {i : Nat} {cs : List α} (hi : css[i]? = some cs) {j : Nat} {u : α} (hj : cs[j]? = some u) : css.flatten[i * es + j]? = some u := by
  have hl : cs.length = es := h cs (List.mem_of_getElem? hi)
  have hj' : j < es := by rw [← hl]; exact (List.getElem?_eq_some_iff.1 hj).1
  rw [← List.getElem?_drop, flat_drop es i css h]
  obtain ⟨hlt, he⟩ := List.getElem?_eq_some_iff.1 hi
  rw [List.drop_eq_getElem_cons hlt, he, List.flatten_cons, List.getElem?_append_left (by omega)]
  exact hj
theorem linr_row {t : TypeId} {T : Nat} {l : List Rec} {m : Mb} (h : EntR w S σ (.linr t T l) m) (off len : Nat) (_hol : off + len ≤ m.n) :
    ∃ css, RecsRep w S T ((l.drop off).take len) css ∧ Row w (fun b => m.g = some b) (m.addr off) css.flatten := by
  simp only [EntR] at h
  obtain ⟨h1, h2, h3, h4, h6, h7⟩ := h
  cases hg : m.g with
  | none =>
    have := h6 hg
    have h0 : l = [] := List.eq_nil_of_length_eq_zero (by omega)
    subst h0
    exact ⟨[], by simp [RecsRep], Row.nil⟩
  | some g =>
    obtain ⟨cur, css, hb, hc, hr, ht⟩ := h7 g hg
    refine ⟨(css.drop off).take len, (hr.drop off).take len, fun _ => ?_⟩
    refine ⟨g, off * m.es, by simp [Mb.addr, hg], rfl, fun j v hv => ?_⟩
    rw [hb.cell, h1]
    have hes := hr.es
    rw [← flat_take (esz T) len _ (fun c hc => hes c (List.mem_of_mem_drop hc)), ← flat_drop (esz T) off _ hes, List.getElem?_take] at hv
    split at hv
    · rw [List.getElem?_drop, ← ht, List.getElem?_take] at hv
      split at hv
      · simpa using hv
      · cases hv
    · cases hv
/-- What a frozen name's references read as. -/
theorem Rep.ghostf {id : Nat} {e : AV} {m : Mb} {cs : List Value} (hm : σ id = some m) (he : EntR w S σ e m) (hl : (∃ t k l, e = .lini t k l) ∨ ∃ t T l, e = .linr t T l)
    (hS : ∀ b, S b → S' b) (hg : ∀ g, m.g = some g → S' g) (h : Rep w S σ (.ownf id) cs) : Rep w S' σ (V.ghostf e) cs := by
  simp only [Rep] at h
  obtain ⟨m', hm', rfl⟩ := h
  rw [hm] at hm'
  cases hm'
  rcases hl with ⟨t, k, l, rfl⟩ | ⟨t, T, l, rfl⟩
  · have hr := lini_row he 0 l.length (by simp only [EntR] at he; omega)
    simp only [List.drop_zero, List.take_length] at hr
    simp only [EntR] at he
    obtain ⟨h1, h2, h3, h4, h5, _⟩ := he
    simp only [V.ghostf, Rep]
    exact ⟨m.addr 0, m.cap, by rw [h2], ⟨by omega, h4, h5, hr.weaken hg⟩, by simp⟩
  · obtain ⟨css, hc, hr⟩ := linr_row he 0 l.length (by simp only [EntR] at he; omega)
    simp only [List.drop_zero, List.take_length] at hc
    simp only [EntR] at he
    obtain ⟨h1, h2, h3, h4, _⟩ := he
    simp only [V.ghostf, Rep]
    exact ⟨m.addr 0, m.cap, css, by rw [h2], by omega, h4, by simp, hc.keep (fun _ _ _ => rfl) hS, hr.weaken hg⟩
theorem Rep.ghost {id off len : Nat} {e : AV} {m : Mb} {cs : List Value} (hm : σ id = some m) (he : EntR w S σ e m) (hl : (∃ t k l, e = .lini t k l) ∨ ∃ t T l, e = .linr t T l)
    (hS : ∀ b, S b → S' b) (hg : ∀ g, m.g = some g → S' g) (h : Rep w S σ (.own id off len) cs) : Rep w S' σ (V.ghost off len e) cs := by
  simp only [Rep] at h
  obtain ⟨m', A, hm', rfl, hol, hA⟩ := h
  rw [hm] at hm'
  cases hm'
  rcases hl with ⟨t, k, l, rfl⟩ | ⟨t, T, l, rfl⟩
  · have hr := lini_row he off len hol
    simp only [EntR] at he
    obtain ⟨h1, h2, h3, h4, h5, _⟩ := he
    simp only [V.ghost, Rep]
    have hlen : ((l.drop off).take len).length = len := by simp; omega
    refine ⟨A, m.cap - off, by rw [hlen], ⟨by omega, by omega, fun n hn => h5 n (List.mem_of_mem_drop (List.mem_of_mem_take hn)), ?_⟩, by simp⟩
    intro hne
    have : 0 < len := by
      rcases Nat.eq_zero_or_pos len with h0 | h0
      · subst h0; simp at hne
      · exact h0
    rw [hA this]
    exact (hr.weaken hg) hne
  · obtain ⟨css, hc, hr⟩ := linr_row he off len hol
    simp only [EntR] at he
    obtain ⟨h1, h2, h3, h4, _⟩ := he
    simp only [V.ghost, Rep]
    have hlen : ((l.drop off).take len).length = len := by simp; omega
    refine ⟨A, m.cap - off, css, by rw [hlen], by omega, by omega, by simp, hc.keep (fun _ _ _ => rfl) hS, ?_⟩
    intro hne
    have : 0 < len := by
      rcases Nat.eq_zero_or_pos len with h0 | h0
      · subst h0
        have := hc.len
        simp at this
        subst this
        simp at hne
      · exact h0
    rw [hA this]
    exact (hr.weaken hg) hne
mutual
theorem Rep.frz {id : Nat} {e : AV} {m : Mb} (hm : σ id = some m) (he : EntR w S σ e m) (hl : (∃ t k l, e = .lini t k l) ∨ ∃ t T l, e = .linr t T l)
    (hS : ∀ b, S b → S' b) (hg : ∀ g, m.g = some g → S' g) : ∀ (x : AV) (cs : List Value), Rep w S σ x cs → Rep w S' σ (frzAV id e x) cs := by
  intro x cs h
  cases x with
  | ownf i =>
    simp only [frzAV]
    cases hb : Nat.beq i id with
    | true => have := beq_true hb; subst this; exact Rep.ghostf hm he hl hS hg h
    | false => exact Rep.keep _ _ h (fun _ _ _ => rfl) hS
  | own i o l =>
    simp only [frzAV]
    cases hb : Nat.beq i id with
    | true => have := beq_true hb; subst this; exact Rep.ghost hm he hl hS hg h
    | false => exact Rep.keep _ _ h (fun _ _ _ => rfl) hS
  | ptr i o l =>
    simp only [frzAV]
    cases hb : Nat.beq i id with
    | true => simp only [Rep] at h ⊢; obtain ⟨m, g, _, _, rfl⟩ := h; exact ⟨_, rfl, rfl⟩
    | false => exact Rep.keep _ _ h (fun _ _ _ => rfl) hS
  | agg l => simp only [frzAV, Rep] at h ⊢; obtain ⟨css, h1, h2⟩ := h; exact ⟨css, RepL.frz hm he hl hS hg l css h1, h2⟩
  | box t l => simp only [Rep] at h
  | tup l => simp only [Rep] at h
  | _ => simp only [frzAV]; exact Rep.keep _ _ h (fun _ _ _ => rfl) hS
theorem RepL.frz {id : Nat} {e : AV} {m : Mb} (hm : σ id = some m) (he : EntR w S σ e m) (hl : (∃ t k l, e = .lini t k l) ∨ ∃ t T l, e = .linr t T l)
    (hS : ∀ b, S b → S' b) (hg : ∀ g, m.g = some g → S' g) : ∀ (l : List AV) (css : List (List Value)), RepL w S σ l css → RepL w S' σ (frzL id e l) css := by
  intro l css h
  cases l with
  | nil => simp only [frzL, RepL] at h ⊢; exact h
  | cons x l =>
    simp only [frzL, RepL] at h ⊢
    obtain ⟨cs, css', e1, h1, h2⟩ := h
    exact ⟨cs, css', e1, Rep.frz hm he hl hS hg x cs h1, RepL.frz hm he hl hS hg l css' h2⟩
end
theorem frzL_cnt (id : Nat) (e : AV) : ∀ l : List AV, cnt (frzL id e l) = cnt l
  | [] => rfl
  | _ :: l => by simp [frzL, cnt, frzL_cnt id e l]
theorem RepV0.frz {id : Nat} {e : AV} {m : Mb} (hm : σ id = some m) (he : EntR w S σ e m) (hl : (∃ t k l, e = .lini t k l) ∨ ∃ t T l, e = .linr t T l)
    (hS : ∀ b, S b → S' b) (hg : ∀ g, m.g = some g → S' g) {x : AV} {v : Value} (h : RepV0 w S σ x v) : RepV0 w S' σ (frzAV id e x) v := by
  have gf : ∀ e : AV, ∀ l, V.ghostf e ≠ .agg l := fun e l => by cases e <;> simp [V.ghostf]
  have gh : ∀ (e : AV) a b, ∀ l, V.ghost a b e ≠ .agg l := fun e a b l => by cases e <;> simp [V.ghost]
  have z : ∀ y : AV, (∀ l, y ≠ .agg l) → Rep w S' σ y [v] → RepV0 w S' σ y v := by
    intro y hy hr
    cases y with
    | agg l => exact absurd rfl (hy l)
    | _ => exact hr
  cases x with
  | agg l => simp only [RepV0, frzAV] at h ⊢; obtain ⟨cs, e1, h1⟩ := h; exact ⟨cs, e1, by have := Rep.frz hm he hl hS hg _ _ h1; simpa only [frzAV] using this⟩
  | ownf i => have := Rep.frz hm he hl hS hg (.ownf i) _ h; refine z _ (fun l => ?_) this; simp only [frzAV]; cases Nat.beq i id <;> simp [gf]
  | own i o l => have := Rep.frz hm he hl hS hg (.own i o l) _ h; refine z _ (fun l => ?_) this; simp only [frzAV]; cases Nat.beq i id <;> simp [gh]
  | ptr i o l => have := Rep.frz hm he hl hS hg (.ptr i o l) _ h; refine z _ (fun l => ?_) this; simp only [frzAV]; cases Nat.beq i id <;> simp
  | box t l => simp only [RepV0, Rep] at h
  | tup l => simp only [RepV0, Rep] at h
  | _ => exact Rep.frz hm he hl hS hg _ _ h
theorem RepVL.frz {id : Nat} {e : AV} {m : Mb} (hm : σ id = some m) (he : EntR w S σ e m) (hl : (∃ t k l, e = .lini t k l) ∨ ∃ t T l, e = .linr t T l)
    (hS : ∀ b, S b → S' b) (hg : ∀ g, m.g = some g → S' g) : ∀ {l : List AV} {vs : List Value}, RepVL w S σ l vs → RepVL w S' σ (frzL id e l) vs
  | [], _, h => h
  | _ :: _, _, ⟨v, vs', e1, h1, h2⟩ => ⟨v, vs', e1, h1.frz hm he hl hS hg, RepVL.frz hm he hl hS hg h2⟩
theorem RepV.frz {id : Nat} {e : AV} {m : Mb} (hm : σ id = some m) (he : EntR w S σ e m) (hl : (∃ t k l, e = .lini t k l) ∨ ∃ t T l, e = .linr t T l)
    (hS : ∀ b, S b → S' b) (hg : ∀ g, m.g = some g → S' g) {x : AV} {v : Value} (h : RepV w S σ x v) : RepV w S' σ (frzAV id e x) v := by
  have z : ∀ y : AV, (∀ l, y ≠ .tup l) → y ≠ .undef → RepV0 w S' σ y v → RepV w S' σ y v := by
    intro y hy hu hr
    cases y with
    | tup l => exact absurd rfl (hy l)
    | undef => exact absurd rfl hu
    | _ => exact hr
  have gf : ∀ e : AV, (∀ l, V.ghostf e ≠ .tup l) ∧ V.ghostf e ≠ .undef := fun e => by cases e <;> simp [V.ghostf]
  have gh : ∀ (e : AV) a b, (∀ l, V.ghost a b e ≠ .tup l) ∧ V.ghost a b e ≠ .undef := fun e a b => by cases e <;> simp [V.ghost]
  cases x with
  | tup l => simp only [RepV, frzAV] at h ⊢; obtain ⟨vs, e1, h1⟩ := h; exact ⟨vs, e1, h1.frz hm he hl hS hg⟩
  | undef => exact h
  | agg l => exact RepV0.frz hm he hl hS hg (x := .agg l) h
  | ownf i => have := RepV0.frz hm he hl hS hg (x := .ownf i) h; refine z _ (fun l => ?_) ?_ this <;> (simp only [frzAV]; cases Nat.beq i id <;> simp [gf])
  | own i o l => have := RepV0.frz hm he hl hS hg (x := .own i o l) h; refine z _ (fun l => ?_) ?_ this <;> (simp only [frzAV]; cases Nat.beq i id <;> simp [gh])
  | ptr i o l => have := RepV0.frz hm he hl hS hg (x := .ptr i o l) h; refine z _ (fun l => ?_) ?_ this <;> (simp only [frzAV]; cases Nat.beq i id <;> simp)
  | box t l => simp only [RepV, RepV0, Rep] at h
  | _ => (simp only [RepV, frzAV] at h ⊢) <;> exact RepV0.frz hm he hl hS hg h
theorem EntR.frz {id : Nat} {e : AV} {m : Mb} (hm : σ id = some m) (he : EntR w S σ e m) (hl : (∃ t k l, e = .lini t k l) ∨ ∃ t T l, e = .linr t T l)
    (hS : ∀ b, S b → S' b) (hg : ∀ g, m.g = some g → S' g) {y : AV} {m' : Mb} (h : EntR w S σ y m') : EntR w S' σ (frzAV id e y) m' := by
  cases y with
  | box t l =>
    simp only [frzAV, EntR] at h ⊢
    obtain ⟨g, css, h1, h2, h3, h4, h5, h6, h7, h8⟩ := h
    exact ⟨g, css, h1, h2, by rw [frzL_cnt]; exact h3, by rw [frzL_cnt]; exact h4, by rw [frzL_cnt]; exact h5, RepL.frz hm he hl hS hg _ _ h6, h7, h8⟩
  | lini t k l => exact EntR.keep h (fun _ _ _ => rfl) hS (fun _ _ => rfl)
  | linr t T l => exact EntR.keep h (fun _ _ _ => rfl) hS (fun _ _ => rfl)
  | ints f k l => exact h
  | rs f T l => exact h
  | _ => exact h.elim
end
end Go.Proofs.Ytnioiijcmdnhaaa.V
