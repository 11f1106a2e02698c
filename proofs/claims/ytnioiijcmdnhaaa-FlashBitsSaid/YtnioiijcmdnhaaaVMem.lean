/-
  Operations that make or write memory: what the evaluator gives holds of the model. Plain theorems; no function of the program is named here.
-/
import Derived.Test.YtnioiijcmdnhaaaVStill
import Derived.Great.BuildSlice
import Derived.Laws.MakeOwn
set_option linter.all false
namespace Go.Proofs.Ytnioiijcmdnhaaa.V
open Go Go.RowKit

section
variable {P : Program} {Γ : TEnv} {n : Nat} {F0 : Fx} {w0 w w' : World} {σ σ' : Sg} {S S' : Nat → Prop} {s s' : AS} {a : Act}

/-- What an operation does: it ends in a state of which s' holds; but for the blocks of M and what is new all stays. -/
def Does (P : Program) (n : Nat) (F0 : Fx) (w0 : World) (σ : Sg) (a : Act) (w : World) (dst : Option Tmp) (op : Op) (M : Nat → Prop) (s' : AS) : Prop :=
  ∀ (o : Oper) (K : Act → World → Prop) (Q : Exit → Act → World → Prop), o.op = op → o.dst = dst →
    (∀ a' w' σ' S', Rel n F0 w0 σ' S' s' a' w' → Fr M w w' → (∀ id, dst ≠ some id → σ' id = σ id) → K a' w') → o.wp P a w K Q
theorem does_run {dst : Option Tmp} {op : Op} {M : Nat → Prop} {v : Value} (hrun : ∀ o : Oper, o.op = op → (execOp a.eval o).run P w = .ok (.value v) w') (hrel : Rel n F0 w0 σ' S' s' (a.put dst v) w') (hfr : Fr M w w') (hσ : ∀ id, dst ≠ some id → σ' id = σ id) :
    Does P n F0 w0 σ a w dst op M s' := by
  intro o K Q ho hd hK
  unfold Oper.wp
  rw [hrun o ho]
  simp only [Oper.upon]
  rw [hd]
  exact hK _ _ σ' S' hrel hfr hσ
theorem does_skip {op : Op} {M : Nat → Prop} (hrun : ∀ o : Oper, o.op = op → (execOp a.eval o).run P w = .ok .skip w') (hrel : Rel n F0 w0 σ S' s' a w') (hfr : Fr M w w') :
    Does P n F0 w0 σ a w none op M s' := by
  intro o K Q ho hd hK
  unfold Oper.wp
  rw [hrun o ho]
  simp only [Oper.upon]
  rw [hd]
  exact hK _ _ σ S' hrel hfr fun _ _ => rfl
theorem Does.mono {dst : Option Tmp} {op : Op} {M M' : Nat → Prop} (h : Does P n F0 w0 σ a w dst op M s') (hM : ∀ b, M b → M' b) : Does P n F0 w0 σ a w dst op M' s' :=
  fun o K Q ho hd hK => h o K Q ho hd fun a' w' σ' S' h1 h2 h3 => hK a' w' σ' S' h1 ⟨h2.os, h2.tape, h2.output, h2.size, fun k hk hn => h2.block k hk fun hm => hn (hM k hm)⟩ h3

theorem fr_alloc (w : World) (o : Obj) (M : Nat → Prop) : Fr M w (w.alloc o) := ⟨rfl, rfl, rfl, by simp, fun k hk _ => Below.heap_alloc w o k hk⟩
theorem Fr.weak {M M' : Nat → Prop} (h : Fr M w w') (hM : ∀ b, M b → M' b) : Fr M' w w' := ⟨h.os, h.tape, h.output, h.size, fun k hk hn => h.block k hk fun hm => hn (hM k hm)⟩
theorem fr_grown {row : Option Nat} (h : w.grownBy w' row) : Fr (fun b => row = some b) w w' := ⟨h.os, h.tape, h.output, h.size, fun k hk hn => h.block k hk fun e => hn e.symm⟩

/-- New memory, under the name d. -/
theorem Rel.fresh (h : Rel n F0 w0 σ S s a w) (hfr : Fr (fun _ => False) w w') {d : Nat} (hd : d < n) {e : AV} {m : Mb} (he : EntR w' S (upd σ d m) e m) (hg : ∀ g, m.g = some g → w.heap.size ≤ g) :
    Rel n F0 w0 (upd σ d m) S ((s.kill d).hput d e) a w' := by
  have h1 := h.chg (id := none) (hfr.weak fun _ h => h.elim)
  refine Rel.add (s := s) h1 (by have := h.small; omega) he fun g hgg => ⟨fun hs => ?_, fun hlt => ?_, fun i y m' hy _ hm' hg' => ?_⟩
  · have := h.Sold g hs; have := hg g hgg; omega
  · have := hg g hgg; have := h.fr.size; omega
  · obtain ⟨m2, hm2, hr⟩ := h.ents i y hy
    rw [hm'] at hm2
    cases hm2
    have := hr.lt hg'
    have := hg g hgg
    omega
theorem del_del (l : Env) (i : Nat) : ∀ t, get (del (del l i) i) t = get (del l i) t := by
  intro t
  simp only [get_del]
  split <;> simp_all
/-- Memory of the call's own that has grown, under the name d. -/
theorem Rel.grow (h : Rel n F0 w0 σ S s a w) {id : Nat} {e0 : AV} {m0 : Mb} (he0 : get s.h id = some e0) (hm0 : σ id = some m0) (hfr : Fr (fun b => m0.g = some b) w w') {d : Nat} (hd : d < n) {e : AV} {m : Mb}
    (he : EntR w' S (upd σ d m) e m) (hg : ∀ g, m.g = some g → m0.g = some g ∨ w.heap.size ≤ g) :
    Rel n F0 w0 (upd σ d m) S (((s.kill id).kill d).hput d e) a w' := by
  have h1 := h.chg (id := some id) (hfr.weak fun b hb => ⟨id, e0, m0, rfl, he0, hm0, hb⟩)
  have h2 := (h1.kill id (σ' := σ) (fun _ _ => rfl)).less (s' := s.kill id) (fun t x hx => by simpa [AS.kill] using hx) (fun t x hx => by
    simp only [AS.kill, delO, get_emap, del_del] at hx ⊢
    exact hx)
  have kk : ∀ i y, get (s.kill id).h i = some y → ∃ y0, i ≠ id ∧ get s.h i = some y0 := by
    intro i y hy
    simp only [AS.kill, get_emap, get_del] at hy
    by_cases hd : id = i
    · rw [if_pos hd] at hy; cases hy
    · rw [if_neg hd] at hy
      cases h0 : get s.h i with
      | none => rw [h0] at hy; cases hy
      | some y0 => exact ⟨y0, Ne.symm hd, rfl⟩
  refine Rel.add (s := s.kill id) h2 (by have := h.small; omega) he fun g hgg => ⟨fun hs => ?_, fun hlt => ?_, fun i y m' hy _ hm' hg' => ?_⟩
  · rcases hg g hgg with h3 | h3
    · exact h.apart id e0 m0 g he0 hm0 h3 hs
    · have := h.Sold g hs; omega
  · rcases hg g hgg with h3 | h3
    · exact h.old id e0 m0 g he0 hm0 h3 hlt
    · have := h.fr.size; omega
  · obtain ⟨y0, hne, hy0⟩ := kk i y hy
    rcases hg g hgg with h3 | h3
    · exact hne (h.inj i id y0 e0 m' m0 g hy0 he0 hm' hm0 hg' h3)
    · obtain ⟨m2, hm2, hr⟩ := h.ents i y0 hy0
      rw [hm'] at hm2
      cases hm2
      have := hr.lt hg'
      omega
/-- Memory of the call's own that was written. -/
theorem Rel.write (h : Rel n F0 w0 σ S s a w) {id : Nat} {e0 e : AV} {m : Mb} (he0 : get s.h id = some e0) (hm : σ id = some m) (hfr : Fr (fun b => m.g = some b) w w') (he : EntR w' S σ e m) :
    Rel n F0 w0 σ S (s.hput id e) a w' := by
  have h1 := h.chg (id := some id) (hfr.weak fun b hb => ⟨id, e0, m, rfl, he0, hm, hb⟩)
  refine Rel.wrote h1 (fun e => by subst e; exact h.ent _ he0) hm he fun g hgg => ⟨h.apart id e0 m g he0 hm hgg, h.old id e0 m g he0 hm hgg, fun i y m' hy hne hm' hg' => hne (h.inj i id y e0 m' m g hy he0 hm' hm hg' hgg)⟩

theorem ent_box {w : World} {t : TypeId} {l : List AV} {us : List Value} {g : Nat} (hr : RepL w S σ l (us.map ([·]))) (hm : cnt l ≤ maxLen) (hb : Blk w g t us.toArray) : EntR w S σ (.box t l) ⟨some g, 1, cnt l, cnt l⟩ := by
  unfold EntR
  refine ⟨g, us.map ([·]), rfl, rfl, rfl, rfl, hm, hr, ?_, by rw [flat_singles]; exact hb⟩
  intro cs hcs
  obtain ⟨u, _, rfl⟩ := List.mem_map.1 hcs
  rfl
theorem zero_ok (hΓ : TOk P Γ) {t : TypeId} {ti : TI} (ht : tget Γ t = some ti) {z : AV} (hz : ti.zero = some z) :
    ∃ (i : TypeInfo) (zv : Value) (us : List Value), P.info? t = some i ∧ i.zero = some zv ∧ zv.cells = us.toArray ∧ (∀ w S σ, RepL w S σ (cellsOf z) (us.map ([·]))) := by
  have hti := hΓ t ti ht
  have one : ∀ (x : AV) (v : Value), cellsOf x = [x] → (∀ w S σ, Rep w S σ x [v]) → ∀ w S σ, RepL w S σ (cellsOf x) (([v] : List Value).map ([·])) := by
    intro x v hx hr w S σ
    rw [hx]
    simp only [List.map_cons, List.map_nil, RepL]
    exact ⟨_, _, rfl, hr w S σ, rfl⟩
  cases ti with
  | int k => simp only [TI.zero] at hz; cases hz; obtain ⟨_, i, h1, _, h3⟩ := hti; exact ⟨i, _, [_], h1, h3, rfl, one _ _ rfl fun w S σ => by unfold Rep; exact ⟨rfl, by cases k <;> rfl⟩⟩
  | bool => simp only [TI.zero] at hz; cases hz; obtain ⟨_, i, h1, _, h3⟩ := hti; exact ⟨i, _, [_], h1, h3, rfl, one _ _ rfl fun w S σ => by simp only [Rep]⟩
  | str => simp only [TI.zero] at hz; cases hz; obtain ⟨_, i, h1, _, h3⟩ := hti; exact ⟨i, _, [_], h1, h3, rfl, one _ _ rfl fun w S σ => by simp only [Rep]; exact ⟨_, rfl, by rw [ByteArray.toList_eq]; rfl⟩⟩
  | sl e ek => simp only [TI.zero] at hz; cases hz; obtain ⟨_, ⟨i, h1, _, h3⟩, _⟩ := hti; exact ⟨i, _, [_], h1, h3, rfl, one _ _ rfl fun w S σ => by simp only [Rep]⟩
  | st offs z' => simp only [TI.zero] at hz; cases hz; obtain ⟨_, i, zv, _, h1, _, h3, h4, _⟩ := hti; exact ⟨i, _, zv, h1, h3, rfl, h4⟩
  | ar q z' => simp only [TI.zero] at hz; cases hz; obtain ⟨_, i, _, zv, _, h1, _, h3, h4, _⟩ := hti; exact ⟨i, _, zv, h1, h3, rfl, h4⟩
  | ptr => simp [TI.zero] at hz
theorem rep_ptr {d g : Nat} {m : Mb} (hg : m.g = some g) : RepV w S (upd σ d m) (.ptr d 0 0) (.pointer (some ⟨g, 0, none⟩)) := by
  simp only [RepV, RepV0, Rep]
  exact ⟨m, g, by simp [upd], hg, by simp⟩
theorem rep_ownf {d : Nat} {m : Mb} : RepV w S (upd σ d m) (.ownf d) (.slice (m.addr 0) m.n m.cap) := by
  simp only [RepV, RepV0, Rep]
  exact ⟨m, by simp [upd], rfl⟩

variable {k : AS → Prop}
theorem cnt_small {t : TypeId} {l : List AV} (h : cnt l ≤ 1000) : cnt l ≤ maxLen := by unfold maxLen; omega
theorem alloc_ok (hΓ : TOk P Γ) (hr : Rel n F0 w0 σ S s a w) {d : Nat} (hd : d < n) {t : TypeId} (C : Oracle) (pm : FuncId → Option Pm) (h : wop Γ C pm s (some d) (.alloc t) k) :
    ∃ s', k s' ∧ Does P n F0 w0 σ a w (some d) (.alloc t) (fun _ => False) s' := by
  simp only [wop] at h
  cases ht : tget Γ t with
  | none => rw [ht] at h; cases h
  | some ti =>
    rw [ht] at h
    simp only at h
    cases hz : ti.zero with
    | none => rw [hz] at h; cases h
    | some z =>
      rw [hz] at h
      simp only at h
      cases hsm : Nat.ble (cnt (cellsOf z)) 1000 with
      | false => rw [hsm] at h; cases h
      | true =>
        rw [hsm] at h
        obtain ⟨i, zv, us, hi, hzv, hcs, hrl⟩ := zero_ok hΓ ht hz
        have hblk : Blk (w.alloc (.cells us.toArray t)) w.heap.size t us.toArray := Blk.new w t us.toArray
        have hle : cnt (cellsOf z) ≤ maxLen := by have := Nat.le_of_ble_eq_true hsm; unfold maxLen; omega
        refine ⟨_, h, does_run (σ' := upd σ d ⟨some w.heap.size, 1, cnt (cellsOf z), cnt (cellsOf z)⟩) (S' := S) (v := .pointer (some ⟨w.heap.size, 0, none⟩)) (w' := w.alloc (.cells us.toArray t)) (fun o ho => ?_) ?_ (fr_alloc w _ _) (fun id hid => by simp [upd]; intro e; exact absurd (by rw [e]) hid)⟩
        · simp [execOp, ho, Instr.alloc, zeroValue, typeInfo, hi, hzv, newVar, newRow, hcs]
        · exact (hr.fresh (fr_alloc w _ _) hd (ent_box (hrl _ _ _) hle hblk) (fun g hg => by cases hg; exact Nat.le_refl _)).tput hd (rep_ptr rfl)
theorem box_ok (hΓ : TOk P Γ) (hr : Rel n F0 w0 σ S s a w) {d : Nat} (hd : d < n) {t : TypeId} {x : Operand} (C : Oracle) (pm : FuncId → Option Pm) (h : wop Γ C pm s (some d) (.box t x) k) :
    ∃ s', k s' ∧ Does P n F0 w0 σ a w (some d) (.box t x) (fun _ => False) s' := by
  simp only [wop] at h
  cases hx : aval (s.kill d) x with
  | none => rw [hx] at h; simp at h
  | some v =>
    cases ht : tget Γ t with
    | none => rw [hx, ht] at h; simp at h
    | some ti =>
      rw [hx, ht] at h
      simp only at h
      cases hfit : fits v ti.size with
      | false => rw [hfit] at h; simp at h
      | true =>
        cases hsm : Nat.ble (cnt (cellsOf v)) 1000 with
        | false => rw [hfit, hsm] at h; simp at h
        | true =>
          rw [hfit, hsm] at h
          obtain ⟨hf, hcn⟩ := fits_of hfit
          -- the value, once the name d is forgotten
          have hk := hr.kill d (σ' := upd σ d ⟨some w.heap.size, 1, cnt (cellsOf v), cnt (cellsOf v)⟩) (fun i hi => by simp [upd, hi])
          obtain ⟨us, hu1, hu2, _, hu4, _⟩ := cells_ok (aval_ok hk hx) hf
          have hblk : Blk (w.alloc (.cells us.toArray t)) w.heap.size t us.toArray := Blk.new w t us.toArray
          have hle : cnt (cellsOf v) ≤ maxLen := by have := Nat.le_of_ble_eq_true hsm; unfold maxLen; omega
          have hkeep : ∀ b o, S b → (w.alloc (.cells us.toArray t)).cell? ⟨b, o, none⟩ = w.cell? ⟨b, o, none⟩ := fun b o hb => by
            have := (fr_alloc w (.cells us.toArray t) (fun _ => False)).block b (hr.Sold b hb) id
            simp [World.cell?, this]
          refine ⟨_, h, does_run (σ' := upd σ d ⟨some w.heap.size, 1, cnt (cellsOf v), cnt (cellsOf v)⟩) (S' := S) (v := .pointer (some ⟨w.heap.size, 0, none⟩)) (w' := w.alloc (.cells us.toArray t)) (fun o ho => ?_) ?_ (fr_alloc w _ _) (fun id hid => by simp [upd]; intro e; exact absurd (by rw [e]) hid)⟩
          · simp [execOp, ho, Instr.box, newVar, newRow, hu1]
          · exact (hr.fresh (fr_alloc w _ _) hd (ent_box (RepL.keep _ _ hu2 hkeep fun _ h => h) hle hblk) (fun g hg => by cases hg; exact Nat.le_refl _)).tput hd (rep_ptr rfl)
end
end Go.Proofs.Ytnioiijcmdnhaaa.V
