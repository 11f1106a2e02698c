/-
  The mark that a constant string leaves on its bytes. Plain theorems; no function of the program is named here.
-/
import Derived.Test.YtnioiijcmdnhaaaVMem5
set_option linter.all false
namespace Go.Proofs.Ytnioiijcmdnhaaa.V
open Go Go.RowKit

section
variable {P : Program} {Γ : TEnv} {n : Nat} {F0 : Fx} {w0 w w' : World} {σ σ' : Sg} {S S' : Nat → Prop} {s s' : AS} {a : Act}
/-- Another world in which all that is known reads as before. -/
theorem Rel.world (h : Rel n F0 w0 σ S s a w) (hk : ∀ b o, S b → w'.cell? ⟨b, o, none⟩ = w.cell? ⟨b, o, none⟩) (ho : ∀ id e m g, get s.h id = some e → σ id = some m → m.g = some g → w'.heap[g]? = w.heap[g]?) (hsz : w.heap.size ≤ w'.heap.size) (hfr : Fr F0.p w0 w') :
    Rel n F0 w0 σ S s a w' where
  small := h.small
  sz := h.sz
  defers := h.defers
  slots := fun t y hy => by
    obtain ⟨v, hv, hr⟩ := h.slots t y hy
    exact ⟨v, hv, hr.keep hk fun _ h => h⟩
  ents := fun i y hy => by
    obtain ⟨m, hm, hr⟩ := h.ents i y hy
    exact ⟨m, hm, hr.keep hk (fun _ h => h) fun g hg => ho i y m g hy hm hg⟩
  inj := h.inj
  apart := h.apart
  old := h.old
  Sold := fun b hb => Nat.lt_of_lt_of_le (h.Sold b hb) hsz
  ent := h.ent
  mono := h.mono
  src := h.src
  fr := hfr
theorem mark_ok (hΓ : TOk P Γ) (hr : Rel n F0 w0 σ S s a w) {d : Nat} (hd : d < n) {src dt : TypeId} {x : Operand} {k : AS → Prop} (C : Oracle) (pm : FuncId → Option Pm) (h : wop Γ C pm s (some d) (.convert src dt x) k) :
    ∃ s', k s' ∧ Does P n F0 w0 σ a w (some d) (.convert src dt x) (fun q => ∃ id ∈ modsConv s x, OfId σ id q) s' := by
  simp only [wop] at h
  cases hte : Nat.beq src dt with
  | false => rw [hte] at h; simp at h
  | true =>
    have := beq_true hte
    subst this
    rw [hte] at h
    cases ht : tget Γ src with
    | none => rw [ht] at h; simp at h
    | some ti =>
      have hti := hΓ src ti ht
      rw [ht] at h
      cases hx : aval s x with
      | none => rw [hx] at h; simp at h
      | some xa =>
        rw [hx] at h
        split at h
        · rename_i e id heq1 heq2 heq3
          cases heq2
          cases heq3
          cases he : get s.h id with
          | none => rw [he] at h; simp at h
          | some en =>
            rw [he] at h
            split at h
            · rename_i en' t kk z l heq
              cases heq
              obtain ⟨m, hm, hen⟩ := hr.ents id _ he
              have hrx := aval_ok hr hx
              have hrx' := hrx
              simp only [RepV, RepV0, Rep, List.cons.injEq, and_true] at hrx'
              obtain ⟨m', hm', hxe⟩ := hrx'
              rw [hm] at hm'
              cases hm'
              have hen' := hen
              simp only [EntR] at hen'
              obtain ⟨e1, e2, e3, e4, e5, e6, e7⟩ := hen'
              have hgs : ∃ g, m.g = some g := by
                cases hg : m.g with
                | some g => exact ⟨g, rfl⟩
                | none => have := e6 hg; simp at e2; omega
              obtain ⟨g, hg⟩ := hgs
              obtain ⟨cur, hb, hc, _⟩ := e7 g hg
              obtain ⟨hu, _, hue, _⟩ := hti
              -- the model's step
              have hw : ∀ (q : Nat), w.heap[q]? = (w.freeze ⟨g, cur.size, none⟩ 1).heap[q]? ∨ q = g := by
                intro q
                by_cases hq : q = g
                · exact .inr hq
                · left
                  simp [World.freeze, Array.getElem?_modify, Ne.symm hq]
              have hcell : ∀ b o, (w.freeze ⟨g, cur.size, none⟩ 1).cell? ⟨b, o, none⟩ = w.cell? ⟨b, o, none⟩ := by
                intro b o
                by_cases hq : b = g
                · subst hq
                  unfold Blk at hb
                  simp [World.cell?, World.freeze, Array.getElem?_modify, hb]
                · rcases hw b with h1 | h1
                  · simp [World.cell?, ← h1]
                  · exact absurd h1 hq
              have hsz : (w.freeze ⟨g, cur.size, none⟩ 1).heap.size = w.heap.size := by simp [World.freeze]
              have hfr : Fr (fun q => m.g = some q) w (w.freeze ⟨g, cur.size, none⟩ 1) := ⟨rfl, rfl, rfl, by rw [hsz]; exact Nat.le_refl _, fun q _ hq => by
                rcases hw q with h1 | h1
                · exact h1.symm
                · exact absurd (by rw [hg, h1]) hq⟩
              have hrun : ∀ o : Oper, o.op = .convert src src x → (execOp a.eval o).run P w = .ok (.value (.slice (m.addr 0) m.n m.cap)) (w.freeze ⟨g, cur.size, none⟩ 1) := by
                intro o ho
                unfold Blk at hb
                simp [execOp, ho, hxe, Mb.addr, hg, convert, run_underlying hu, run_underlying hue, markStringish, shape, freeze, Sem.run, World.shape?, hb]
              have hf := hr.frz he hm (.inl ⟨t, kk, _, rfl⟩)
              have hf2 := hf.world (w' := w.freeze ⟨g, cur.size, none⟩ 1) (fun b o _ => hcell b o) (fun i y m2 g2 h1 h2 h3 => by
                rcases hw g2 with q | q
                · exact q.symm
                · subst q
                  exact absurd (.inr hg) (hf.apart i y m2 g2 h1 h2 h3)) (by rw [hsz]; exact Nat.le_refl _)
                ⟨hfr.os.trans hr.fr.os, hfr.tape.trans hr.fr.tape, hfr.output.trans hr.fr.output, by rw [hsz]; exact hr.fr.size, fun q hq hF => (hfr.block q (Nat.lt_of_lt_of_le hq hr.fr.size) (fun e => hF (hr.old id _ m q he hm e hq))).trans (hr.fr.block q hq hF)⟩
              refine ⟨_, h, (does_run (M := fun q => m.g = some q) (σ' := σ) (S' := fun b => S b ∨ m.g = some b) hrun (hf2.tput hd ?_) hfr fun _ _ => rfl).mono fun q hq => ⟨id, by simp [modsConv, hx], m, hm, hq⟩⟩
              have hgh := Rep.ghostf (w := w) (S := S) (S' := fun b => S b ∨ m.g = some b) hm hen (.inl ⟨t, kk, _, rfl⟩) (fun b hb => .inl hb) (fun g hg => .inr hg) (cs := [.slice (m.addr 0) m.n m.cap]) (by simp only [Rep]; exact ⟨m, hm, rfl⟩)
              have := Rep.keep (w' := w.freeze ⟨g, cur.size, none⟩ 1) (S' := fun b => S b ∨ m.g = some b) _ _ hgh (fun b o _ => hcell b o) (fun _ h => h)
              simp only [V.ghostf] at this
              exact this
            · cases h
        · cases h
end
end Go.Proofs.Ytnioiijcmdnhaaa.V
