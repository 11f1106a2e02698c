/-
  Operations that make or write memory: what the evaluator gives holds of the model. Plain theorems; no function of the program is named here.
  Stores, literals of slices, make. Plain theorems; no function of the program is named here.
  Literals of slices, make. Plain theorems; no function of the program is named here.
-/
import Derived.Test.YtokeanadhihlfaaVStill
import Derived.Great.BuildSlice
import Derived.Laws.MakeOwn

set_option linter.all false
namespace Go.Proofs.Ytokeanadhihlfaa.V
open Go Go.RowKit

section
variable {P : Program} {Γ : TEnv} {n : Nat} {F0 : Fx} {w0 w w' : World} {σ σ' : Sg} {S S' : Nat → Prop} {s s' : AS} {a : Act}

/-- What an operation does: it ends in a state of which s' holds; but for the blocks of M and what is new all stays. -/
def Does (P : Program) (n : Nat) (F0 : Fx) (w0 : World) (σ : Sg) (a : Act) (w : World) (dst : Option Tmp) (op : Op) (M : Nat → Prop) (s' : AS) : Prop :=
  ∀ (o : Oper) (K : Act → World → Prop) (Q : Exit → Act → World → Prop), o.op = op → o.dst = dst →
    (∀ a' w' σ' S', Rel n F0 w0 σ' S' s' a' w' → Fr M w w' → (∀ id, dst ≠ some id → σ' id = σ id) → K a' w') → o.wp P a w K Q
theorem does_run {dst : Option Tmp} {op : Op} {M : Nat → Prop} {v : Value} (hrun : ∀ o : Oper, o.op = op → (execOp a.eval o).run P w = .ok (.value v) w') (hrel : Rel n F0 w0 σ' S' s' (a.put dst v) w') (hfr : Fr M w w') (hσ : ∀ id, dst ≠ some id → σ' id = σ id) :
    Does P n F0 w0 σ a w dst op M s' := by
  intro o K Q ho hd hK
  unfold Oper.wp
  rw [hrun o ho]
  simp only [Oper.upon]
  rw [hd]
  exact hK _ _ σ' S' hrel hfr hσ
theorem does_skip {op : Op} {M : Nat → Prop} (hrun : ∀ o : Oper, o.op = op → (execOp a.eval o).run P w = .ok .skip w') (hrel : Rel n F0 w0 σ S' s' a w') (hfr : Fr M w w') :
    Does P n F0 w0 σ a w none op M s' := by
  intro o K Q ho hd hK
  unfold Oper.wp
  rw [hrun o ho]
  simp only [Oper.upon]
  rw [hd]
  exact hK _ _ σ S' hrel hfr fun _ _ => rfl
theorem Does.mono {dst : Option Tmp} {op : Op} {M M' : Nat → Prop} (h : Does P n F0 w0 σ a w dst op M s') (hM : ∀ b, M b → M' b) : Does P n F0 w0 σ a w dst op M' s' :=
  fun o K Q ho hd hK => h o K Q ho hd fun a' w' σ' S' h1 h2 h3 => hK a' w' σ' S' h1 ⟨h2.os, h2.tape, h2.output, h2.size, fun k hk hn => h2.block k hk fun hm => hn (hM k hm)⟩ h3

theorem fr_alloc (w : World) (o : Obj) (M : Nat → Prop) : Fr M w (w.alloc o) := ⟨rfl, rfl, rfl, by simp, fun k hk _ => Below.heap_alloc w o k hk⟩
theorem Fr.weak {M M' : Nat → Prop} (h : Fr M w w') (hM : ∀ b, M b → M' b) : Fr M' w w' := ⟨h.os, h.tape, h.output, h.size, fun k hk hn => h.block k hk fun hm => hn (hM k hm)⟩
theorem fr_grown {row : Option Nat} (h : w.grownBy w' row) : Fr (fun b => row = some b) w w' := ⟨h.os, h.tape, h.output, h.size, fun k hk hn => h.block k hk fun e => hn e.symm⟩

/-- New memory, under the name d. -/
theorem Rel.fresh (h : Rel n F0 w0 σ S s a w) (hfr : Fr (fun _ => False) w w') {d : Nat} (hd : d < n) {e : AV} {m : Mb} (he : EntR w' S (upd σ d m) e m) (hg : ∀ g, m.g = some g → w.heap.size ≤ g) :
    Rel n F0 w0 (upd σ d m) S ((s.kill d).hput d e) a w' := by
  have h1 := h.chg (id := none) (hfr.weak fun _ h => h.elim)
  refine Rel.add (s := s) h1 (by have := h.small; omega) he fun g hgg => ⟨fun hs => ?_, fun hlt => ?_, fun i y m' hy _ hm' hg' => ?_⟩
  · have := h.Sold g hs; have := hg g hgg; omega
  · have := hg g hgg; have := h.fr.size; omega
  · obtain ⟨m2, hm2, hr⟩ := h.ents i y hy
    rw [hm'] at hm2
    cases hm2
    have := hr.lt hg'
    have := hg g hgg
    omega
theorem del_del (l : Env) (i : Nat) : ∀ t, get (del (del l i) i) t = get (del l i) t := by
  intro t
  simp only [get_del]
  split <;> simp_all
/-- Memory of the call's own that has grown, under the name d. -/
theorem Rel.grow (h : Rel n F0 w0 σ S s a w) {id : Nat} {e0 : AV} {m0 : Mb} (he0 : get s.h id = some e0) (hm0 : σ id = some m0) (hfr : Fr (fun b => m0.g = some b) w w') {d : Nat} (hd : d < n) {e : AV} {m : Mb}
    (he : EntR w' S (upd σ d m) e m) (hg : ∀ g, m.g = some g → m0.g = some g ∨ w.heap.size ≤ g) :
    Rel n F0 w0 (upd σ d m) S (((s.kill id).kill d).hput d e) a w' := by
  have h1 := h.chg (id := some id) (hfr.weak fun b hb => ⟨id, e0, m0, rfl, he0, hm0, hb⟩)
  have h2 := (h1.kill id (σ' := σ) (fun _ _ => rfl)).less (s' := s.kill id) (fun t x hx => by simpa [AS.kill] using hx) (fun t x hx => by
    simp only [AS.kill, delO, get_emap, del_del] at hx ⊢
    exact hx)
  have kk : ∀ i y, get (s.kill id).h i = some y → ∃ y0, i ≠ id ∧ get s.h i = some y0 := by
    intro i y hy
    simp only [AS.kill, get_emap, get_del] at hy
    by_cases hd : id = i
    · rw [if_pos hd] at hy; cases hy
    · rw [if_neg hd] at hy
      cases h0 : get s.h i with
      | none => rw [h0] at hy; cases hy
      | some y0 => exact ⟨y0, Ne.symm hd, rfl⟩
  refine Rel.add (s := s.kill id) h2 (by have := h.small; omega) he fun g hgg => ⟨fun hs => ?_, fun hlt => ?_, fun i y m' hy _ hm' hg' => ?_⟩
  · rcases hg g hgg with h3 | h3
    · exact h.apart id e0 m0 g he0 hm0 h3 hs
    · have := h.Sold g hs; omega
  · rcases hg g hgg with h3 | h3
    · exact h.old id e0 m0 g he0 hm0 h3 hlt
    · have := h.fr.size; omega
  · obtain ⟨y0, hne, hy0⟩ := kk i y hy
    rcases hg g hgg with h3 | h3
    · exact hne (h.inj i id y0 e0 m' m0 g hy0 he0 hm' hm0 hg' h3)
    · obtain ⟨m2, hm2, hr⟩ := h.ents i y0 hy0
      rw [hm'] at hm2
      cases hm2
      have := hr.lt hg'
      omega
/-- Memory of the call's own that was written. -/
theorem Rel.write (h : Rel n F0 w0 σ S s a w) {id : Nat} {e0 e : AV} {m : Mb} (he0 : get s.h id = some e0) (hm : σ id = some m) (hfr : Fr (fun b => m.g = some b) w w') (he : EntR w' S σ e m) :
    Rel n F0 w0 σ S (s.hput id e) a w' := by
  have h1 := h.chg (id := some id) (hfr.weak fun b hb => ⟨id, e0, m, rfl, he0, hm, hb⟩)
  refine Rel.wrote h1 (fun e => by subst e; exact h.ent _ he0) hm he fun g hgg => ⟨h.apart id e0 m g he0 hm hgg, h.old id e0 m g he0 hm hgg, fun i y m' hy hne hm' hg' => hne (h.inj i id y e0 m' m g hy he0 hm' hm hg' hgg)⟩

theorem ent_box {w : World} {t : TypeId} {l : List AV} {us : List Value} {g : Nat} (hr : RepL w S σ l (us.map ([·]))) (hm : cnt l ≤ maxLen) (hb : Blk w g t us.toArray) : EntR w S σ (.box t l) ⟨some g, 1, cnt l, cnt l⟩ := by
  unfold EntR
  refine ⟨g, us.map ([·]), rfl, rfl, rfl, rfl, hm, hr, ?_, by rw [flat_singles]; exact hb⟩
  intro cs hcs
  obtain ⟨u, _, rfl⟩ := List.mem_map.1 hcs
  rfl
theorem zero_ok (hΓ : TOk P Γ) {t : TypeId} {ti : TI} (ht : tget Γ t = some ti) {z : AV} (hz : ti.zero = some z) :
    ∃ (i : TypeInfo) (zv : Value) (us : List Value), P.info? t = some i ∧ i.zero = some zv ∧ zv.cells = us.toArray ∧ (∀ w S σ, RepL w S σ (cellsOf z) (us.map ([·]))) := by
  have hti := hΓ t ti ht
  have one : ∀ (x : AV) (v : Value), cellsOf x = [x] → (∀ w S σ, Rep w S σ x [v]) → ∀ w S σ, RepL w S σ (cellsOf x) (([v] : List Value).map ([·])) := by
    intro x v hx hr w S σ
    rw [hx]
    simp only [List.map_cons, List.map_nil, RepL]
    exact ⟨_, _, rfl, hr w S σ, rfl⟩
  cases ti with
  | int k => simp only [TI.zero] at hz; cases hz; obtain ⟨_, i, h1, _, h3⟩ := hti; exact ⟨i, _, [_], h1, h3, rfl, one _ _ rfl fun w S σ => by unfold Rep; exact ⟨rfl, by cases k <;> rfl⟩⟩
  | bool => simp only [TI.zero] at hz; cases hz; obtain ⟨_, i, h1, _, h3⟩ := hti; exact ⟨i, _, [_], h1, h3, rfl, one _ _ rfl fun w S σ => by simp only [Rep]⟩
  | str => simp only [TI.zero] at hz; cases hz; obtain ⟨_, i, h1, _, h3⟩ := hti; exact ⟨i, _, [_], h1, h3, rfl, one _ _ rfl fun w S σ => by simp only [Rep]; exact ⟨_, rfl, by rw [ByteArray.toList_eq]; rfl⟩⟩
  | sl e ek => simp only [TI.zero] at hz; cases hz; obtain ⟨_, ⟨i, h1, _, h3⟩, _⟩ := hti; exact ⟨i, _, [_], h1, h3, rfl, one _ _ rfl fun w S σ => by simp only [Rep]⟩
  | st offs z' => simp only [TI.zero] at hz; cases hz; obtain ⟨_, i, zv, _, h1, _, h3, h4, _⟩ := hti; exact ⟨i, _, zv, h1, h3, rfl, h4⟩
  | ar q z' => simp only [TI.zero] at hz; cases hz; obtain ⟨_, i, _, zv, _, h1, _, h3, h4, _⟩ := hti; exact ⟨i, _, zv, h1, h3, rfl, h4⟩
  | ptr => simp [TI.zero] at hz
theorem rep_ptr {d g : Nat} {m : Mb} (hg : m.g = some g) : RepV w S (upd σ d m) (.ptr d 0 0) (.pointer (some ⟨g, 0, none⟩)) := by
  simp only [RepV, RepV0, Rep]
  exact ⟨m, g, by simp [upd], hg, by simp⟩
theorem rep_ownf {d : Nat} {m : Mb} : RepV w S (upd σ d m) (.ownf d) (.slice (m.addr 0) m.n m.cap) := by
  simp only [RepV, RepV0, Rep]
  exact ⟨m, by simp [upd], rfl⟩

variable {k : AS → Prop}
theorem cnt_small {t : TypeId} {l : List AV} (h : cnt l ≤ 1000) : cnt l ≤ maxLen := by unfold maxLen; omega
theorem alloc_ok (hΓ : TOk P Γ) (hr : Rel n F0 w0 σ S s a w) {d : Nat} (hd : d < n) {t : TypeId} (C : Oracle) (pm : FuncId → Option Pm) (h : wop Γ C pm s (some d) (.alloc t) k) :
    ∃ s', k s' ∧ Does P n F0 w0 σ a w (some d) (.alloc t) (fun _ => False) s' := by
  simp only [wop] at h
  cases ht : tget Γ t with
  | none => rw [ht] at h; cases h
  | some ti =>
    rw [ht] at h
    simp only at h
    cases hz : ti.zero with
    | none => rw [hz] at h; cases h
    | some z =>
      rw [hz] at h
      simp only at h
      cases hsm : Nat.ble (cnt (cellsOf z)) 1000 with
      | false => rw [hsm] at h; cases h
      | true =>
        rw [hsm] at h
        obtain ⟨i, zv, us, hi, hzv, hcs, hrl⟩ := zero_ok hΓ ht hz
        have hblk : Blk (w.alloc (.cells us.toArray t)) w.heap.size t us.toArray := Blk.new w t us.toArray
        have hle : cnt (cellsOf z) ≤ maxLen := by have := Nat.le_of_ble_eq_true hsm; unfold maxLen; omega
        refine ⟨_, h, does_run (σ' := upd σ d ⟨some w.heap.size, 1, cnt (cellsOf z), cnt (cellsOf z)⟩) (S' := S) (v := .pointer (some ⟨w.heap.size, 0, none⟩)) (w' := w.alloc (.cells us.toArray t)) (fun o ho => ?_) ?_ (fr_alloc w _ _) (fun id hid => by simp [upd]; intro e; exact absurd (by rw [e]) hid)⟩
        · simp [execOp, ho, Instr.alloc, zeroValue, typeInfo, hi, hzv, newVar, newRow, hcs]
        · exact (hr.fresh (fr_alloc w _ _) hd (ent_box (hrl _ _ _) hle hblk) (fun g hg => by cases hg; exact Nat.le_refl _)).tput hd (rep_ptr rfl)
theorem box_ok (hΓ : TOk P Γ) (hr : Rel n F0 w0 σ S s a w) {d : Nat} (hd : d < n) {t : TypeId} {x : Operand} (C : Oracle) (pm : FuncId → Option Pm) (h : wop Γ C pm s (some d) (.box t x) k) :
    ∃ s', k s' ∧ Does P n F0 w0 σ a w (some d) (.box t x) (fun _ => False) s' := by
  simp only [wop] at h
  cases hx : aval (s.kill d) x with
  | none => rw [hx] at h; simp at h
  | some v =>
    cases ht : tget Γ t with
    | none => rw [hx, ht] at h; simp at h
    | some ti =>
      rw [hx, ht] at h
      simp only at h
      cases hfit : fits v ti.size with
      | false => rw [hfit] at h; simp at h
      | true =>
        cases hsm : Nat.ble (cnt (cellsOf v)) 1000 with
        | false => rw [hfit, hsm] at h; simp at h
        | true =>
          rw [hfit, hsm] at h
          obtain ⟨hf, hcn⟩ := fits_of hfit
          -- the value, once the name d is forgotten
          have hk := hr.kill d (σ' := upd σ d ⟨some w.heap.size, 1, cnt (cellsOf v), cnt (cellsOf v)⟩) (fun i hi => by simp [upd, hi])
          obtain ⟨us, hu1, hu2, _, hu4, _⟩ := cells_ok (aval_ok hk hx) hf
          have hblk : Blk (w.alloc (.cells us.toArray t)) w.heap.size t us.toArray := Blk.new w t us.toArray
          have hle : cnt (cellsOf v) ≤ maxLen := by have := Nat.le_of_ble_eq_true hsm; unfold maxLen; omega
          have hkeep : ∀ b o, S b → (w.alloc (.cells us.toArray t)).cell? ⟨b, o, none⟩ = w.cell? ⟨b, o, none⟩ := fun b o hb => by
            have := (fr_alloc w (.cells us.toArray t) (fun _ => False)).block b (hr.Sold b hb) id
            simp [World.cell?, this]
          refine ⟨_, h, does_run (σ' := upd σ d ⟨some w.heap.size, 1, cnt (cellsOf v), cnt (cellsOf v)⟩) (S' := S) (v := .pointer (some ⟨w.heap.size, 0, none⟩)) (w' := w.alloc (.cells us.toArray t)) (fun o ho => ?_) ?_ (fr_alloc w _ _) (fun id hid => by simp [upd]; intro e; exact absurd (by rw [e]) hid)⟩
          · simp [execOp, ho, Instr.box, newVar, newRow, hu1]
          · exact (hr.fresh (fr_alloc w _ _) hd (ent_box (RepL.keep _ _ hu2 hkeep fun _ h => h) hle hblk) (fun g hg => by cases hg; exact Nat.le_refl _)).tput hd (rep_ptr rfl)
end
end Go.Proofs.Ytokeanadhihlfaa.V


set_option linter.all false
namespace Go.Proofs.Ytokeanadhihlfaa.V
open Go Go.RowKit

section
variable {P : Program} {Γ : TEnv} {n : Nat} {F0 : Fx} {w0 w w' : World} {σ σ' : Sg} {S S' : Nat → Prop} {s s' : AS} {a : Act}

/-- Names are read for good until none is left. -/
theorem plain_ok {k : AS → AV → Prop} : ∀ (f : Nat) {s : AS} {S : Nat → Prop} {x : AV} {v : Value}, Rel n F0 w0 σ S s a w → RepV w S σ x v → plain s x k f →
    ∃ s' x' S', k s' x' ∧ Rel n F0 w0 σ S' s' a w ∧ RepV w S' σ x' v ∧ refAV x' = none ∧ (∀ b, S b → S' b)
  | 0, s, S, x, v, _, _, h => by simp [plain] at h
  | f + 1, s, S, x, v, hr, hx, h => by
    simp only [plain] at h
    cases hx1 : refAV x with
    | none => rw [hx1] at h; exact ⟨s, x, S, h, hr, hx, hx1, fun _ h => h⟩
    | some id =>
      rw [hx1] at h
      simp only at h
      cases he : get s.h id with
      | none => rw [he] at h; simp at h
      | some e =>
        rw [he] at h
        obtain ⟨m, hm, hen⟩ := hr.ents id e he
        have hS : ∀ b, S b → (S b ∨ m.g = some b) := fun b hb => .inl hb
        have hg : ∀ g, m.g = some g → (S g ∨ m.g = some g) := fun g hg => .inr hg
        cases e with
        | lini t kk l =>
          simp only at h
          obtain ⟨s', x', S', h1, h2, h3, h4, h5⟩ := plain_ok f (hr.frz he hm (.inl ⟨t, kk, l, rfl⟩)) (RepV.frz hm hen (.inl ⟨t, kk, l, rfl⟩) hS hg hx) h
          exact ⟨s', x', S', h1, h2, h3, h4, fun b hb => h5 b (.inl hb)⟩
        | linr t T l =>
          simp only at h
          obtain ⟨s', x', S', h1, h2, h3, h4, h5⟩ := plain_ok f (hr.frz he hm (.inr ⟨t, T, l, rfl⟩)) (RepV.frz hm hen (.inr ⟨t, T, l, rfl⟩) hS hg hx) h
          exact ⟨s', x', S', h1, h2, h3, h4, fun b hb => h5 b (.inl hb)⟩
        | _ => simp at h
theorem bytes_SI {x : AV} {l : List Int} {v : Value} (hx : Rep w S σ x [v]) (h : bytesOf x = some l) : ∃ A c, v = .slice A l.length c ∧ SI w S A c .u8 l := by
  cases x with
  | nil => simp only [bytesOf] at h; cases h; simp only [Rep, List.cons.injEq, and_true] at hx; exact ⟨none, 0, hx, Nat.le_refl _, Nat.zero_le _, by simp, Row.nil⟩
  | ints f kk l' =>
    simp only [bytesOf] at h
    cases hk : kbeq kk .u8 with
    | false => rw [hk] at h; cases h
    | true =>
      rw [hk] at h
      cases h
      have := kbeq_true hk
      subst this
      simp only [Rep, List.cons.injEq, and_true] at hx
      obtain ⟨A, c, e, h1, _⟩ := hx
      exact ⟨A, c, e, h1⟩
  | _ => simp [bytesOf] at h
/-- A value that is an element. -/
theorem dec_ok {T : Nat} {cs : List AV} {us : List Value} {rc : Rec} (hr : RepL w S σ cs (us.map ([·]))) (h : dec T (oneOf cs) = some rc) : RecRep w S T rc us := by
  cases T with
  | zero =>
    simp only [dec] at h
    split at h
    · rename_i a f b c d y heq
      cases hb : bytesOf y with
      | none => rw [hb] at h; cases h
      | some l =>
        rw [hb] at h
        cases h
        have hcs : cs = [.int .u32 a, .bool f, .int .i64 b, .int .i64 c, .int .i64 d, y] := by
          match cs, heq with
          | [], heq => simp [oneOf] at heq
          | [x], heq =>
            simp only [oneOf] at heq
            subst heq
            -- one cell that is an aggregate: no value
            exfalso
            simp only [RepL] at hr
            obtain ⟨c1, css', e1, h1, e0⟩ := hr
            subst e0
            match us, e1 with
            | [u], e1 =>
              simp only [List.map_cons, List.map_nil, List.cons.injEq, and_true] at e1
              subst e1
              simp only [Rep, RepL] at h1
              obtain ⟨_, ⟨_, _, rfl, ⟨rfl, _⟩, _, _, rfl, rfl, _⟩, e2⟩ := h1
              simp at e2
          | _ :: _ :: _, heq => simpa [oneOf] using heq
        subst hcs
        simp only [RepL] at hr
        obtain ⟨c1, r1, e1, g1, c2, r2, e2, g2, c3, r3, e3, g3, c4, r4, e4, g4, c5, r5, e5, g5, c6, r6, e6, g6, e7⟩ := hr
        subst e7 e6 e5 e4 e3 e2
        match us, e1 with
        | [u1, u2, u3, u4, u5, u6], e1 =>
          simp only [List.map_cons, List.map_nil, List.cons.injEq, and_true] at e1
          obtain ⟨rfl, rfl, rfl, rfl, rfl, rfl⟩ := e1
          simp only [Rep, List.cons.injEq, and_true] at g1 g2 g3 g4 g5
          obtain ⟨rfl, i1⟩ := g1
          subst g2
          obtain ⟨rfl, i3⟩ := g3
          obtain ⟨rfl, i4⟩ := g4
          obtain ⟨rfl, i5⟩ := g5
          obtain ⟨A, c', rfl, hsi⟩ := bytes_SI g6 hb
          exact ⟨A, c', rfl, i1, i3, i4, i5, hsi⟩
    · cases h
  | succ T =>
    simp only [dec] at h
    cases hb : bytesOf (oneOf cs) with
    | none => rw [hb] at h; cases h
    | some l =>
      rw [hb] at h
      cases h
      match cs, hb with
      | [x], hb =>
        simp only [oneOf] at hb
        simp only [RepL] at hr
        obtain ⟨c1, css', e1, h1, e2⟩ := hr
        subst e2
        match us, e1 with
        | [u], e1 =>
          simp only [List.map_cons, List.map_nil, List.cons.injEq, and_true] at e1
          subst e1
          obtain ⟨A, c', rfl, hsi⟩ := bytes_SI h1 hb
          exact ⟨A, c', rfl, hsi⟩
      | [], hb => simp [oneOf, bytesOf] at hb
      | _ :: _ :: _, hb => simp [oneOf, bytesOf] at hb
theorem over_splice : ∀ (us vs : List Value) (j : Nat), j + us.length ≤ vs.length → over vs j us = vs.take j ++ us ++ vs.drop (j + us.length)
  | [], vs, j, _ => by simp [over]
  | u :: us, vs, j, h => by
    simp only [List.length_cons] at h
    simp only [over]
    rw [over_splice us (vs.set j u) (j + 1) (by simp; omega)]
    have h1 : (vs.set j u).take (j + 1) = vs.take j ++ [u] := by
      rw [List.take_add_one]
      simp [List.take_set_of_le, List.getElem?_set, show j < vs.length by omega]
    have h2 : (vs.set j u).drop (j + 1 + us.length) = vs.drop (j + (u :: us).length) := by
      rw [List.drop_set_of_lt (by omega)]
      simp only [List.length_cons]
      congr 1
      omega
    rw [h1, h2]
    simp
theorem splice_over {cs : Array Value} {off : Nat} {us : List Value} (h : off + us.length ≤ cs.size) : splice cs off us = (over cs.toList off us).toArray := by
  rw [over_splice us cs.toList off (by simpa using h)]
  rfl
theorem set_over (vs : List Value) (j : Nat) (u : Value) : over vs j [u] = vs.set j u := rfl
theorem setCells_of {l xs l' : List AV} {j : Nat} (h : setCells l j xs = some l') : l' = V.setAt l j xs ∧ j + cnt xs ≤ cnt l := by
  unfold setCells at h
  cases hb : Nat.ble (j + cnt xs) (cnt l) with
  | false => rw [hb] at h; cases h
  | true => rw [hb] at h; cases h; exact ⟨rfl, Nat.le_of_ble_eq_true hb⟩
theorem setAt_cnt : ∀ (xs l : List AV) (j : Nat), cnt (V.setAt l j xs) = cnt l
  | [], l, j => rfl
  | x :: xs, l, j => by
    simp only [V.setAt]
    rw [setAt_cnt xs]
    rw [cnt_len, cnt_len, setV_eq]
    simp
theorem take_over {us vs : List Value} {off q : Nat} (h : off + us.length ≤ q) (hq : q ≤ vs.length) : (over vs off us).take q = over (vs.take q) off us := by
  rw [over_splice us vs off (by omega), over_splice us (vs.take q) off (by simp; omega)]
  have hA : (vs.take off ++ us).length = off + us.length := by simp; omega
  rw [List.take_append (l₁ := vs.take off ++ us), List.take_of_length_le (by omega), hA, List.take_take, Nat.min_eq_left (by omega), List.drop_take]
theorem flat_over (es : Nat) (css : List (List Value)) (hes : ∀ cs ∈ css, cs.length = es) {i j : Nat} {cs us : List Value} (hi : css[i]? = some cs) (hj : j + us.length ≤ es) :
    over css.flatten (i * es + j) us = (css.set i (over cs j us)).flatten := by
  induction css generalizing i with
  | nil => simp at hi
  | cons c css ih =>
    have hc : c.length = es := hes c (List.mem_cons_self ..)
    cases i with
    | zero =>
      simp at hi
      subst hi
      simp only [Nat.zero_mul, Nat.zero_add, List.flatten_cons, List.set_cons_zero]
      rw [over_splice us _ j (by simp; omega), over_splice us c j (by omega)]
      rw [List.take_append_of_le_length (by omega), List.drop_append_of_le_length (by omega)]
      simp
    | succ i =>
      have ih' := ih (fun cs h => hes cs (List.mem_cons_of_mem _ h)) (i := i) (by simpa using hi)
      simp only [List.flatten_cons, List.set_cons_succ]
      rw [← ih']
      have hl : i * es + j + us.length ≤ css.flatten.length := by
        rw [flat_len es css (fun cs h => hes cs (List.mem_cons_of_mem _ h))]
        have hlt : i < css.length := (List.getElem?_eq_some_iff.1 (by simpa using hi)).1
        have : (i + 1) * es ≤ css.length * es := Nat.mul_le_mul_right _ hlt
        rw [Nat.succ_mul] at this
        omega
      have e1 : (i + 1) * es + j = c.length + (i * es + j) := by rw [Nat.succ_mul, hc]; omega
      rw [e1, over_splice us (c ++ css.flatten) _ (by rw [List.length_append]; omega), over_splice us css.flatten _ hl]
      rw [List.take_append, List.drop_append, List.take_of_length_le (by omega), List.drop_eq_nil_of_le (by omega)]
      have e2 : c.length + (i * es + j) - c.length = i * es + j := by omega
      have e3 : c.length + (i * es + j) + us.length - c.length = i * es + j + us.length := by omega
      rw [e2, e3]
      simp

/-- The block that a name stands for. -/
def OfId (σ : Sg) (id : Nat) (b : Nat) : Prop := ∃ m, σ id = some m ∧ m.g = some b
theorem store_ok (hΓ : TOk P Γ) (hr : Rel n F0 w0 σ S s a w) {t : TypeId} {x y : Operand} {k : AS → Prop} (C : Oracle) (pm : FuncId → Option Pm) (h : wop Γ C pm s none (.store t x y) k) :
    ∃ s', k s' ∧ Does P n F0 w0 σ a w none (.store t x y) (fun b => ∃ id ∈ modsStore s x, OfId σ id b) s' := by
  simp only [wop] at h
  cases hx : aval s x with
  | none => rw [hx] at h; simp at h
  | some xa =>
    cases hy : aval s y with
    | none => rw [hx, hy] at h; simp at h
    | some v =>
      cases ht : tget Γ t with
      | none => rw [hx, hy, ht] at h; simp at h
      | some ti =>
        rw [hx, hy, ht] at h
        simp only at h
        have hti := hΓ t ti ht
        cases hfit : fits v ti.size with
        | false => rw [hfit] at h; simp at h
        | true =>
          rw [hfit] at h
          obtain ⟨hf, hcn⟩ := fits_of hfit
          have hrx := aval_ok hr hx
          have hry := aval_ok hr hy
          obtain ⟨us, hu1, hu2, hu3, hu4, hu5⟩ := cells_ok hry hf
          unfold storeOp at h
          cases xa with
          | ptr id i j =>
            simp only at h
            simp only [RepV, RepV0, Rep, List.cons.injEq, and_true] at hrx
            obtain ⟨m, g, hm, hg, hxe⟩ := hrx
            cases he : get s.h id with
            | none => rw [he] at h; simp at h
            | some en =>
              rw [he] at h
              obtain ⟨m', hm', hen⟩ := hr.ents id en he
              rw [hm] at hm'
              cases hm'
              have hsz : (P.info? t).map (·.size) = some (a.eval y).cells.size := by rw [sizeT hti, hu1]; simp; omega
              have hM : ∀ b, m.g = some b → ∃ id' ∈ modsStore s x, OfId σ id' b := fun b hb => ⟨id, by simp [modsStore, hx], m, hm, hb⟩
              -- the model's step
              have hrun : ∀ (cur : Array Value) (t' : TypeId), Blk w g t' cur → i * m.es + j + us.length ≤ cur.size → ∀ o : Oper, o.op = .store t x y →
                  (execOp a.eval o).run P w = .ok .skip (w.setRow g (splice cur (i * m.es + j) us)) := by
                intro cur t' hb hle o ho
                have := run_storeVar_blk (P := P) (ty := t) (off := i * m.es + j) (v := a.eval y) hb hsz (by rw [hu1]; simpa using hle) (by rw [hu1]; simpa using hu3)
                rw [hu1] at this
                simp only [execOp, ho, hxe, Instr.storeAt, Instr.sureAddr, Sem.run_bind, Sem.run_pure, Result.andThen_ok, this]
              have hfr : ∀ (cur : Array Value), Fr (fun b => m.g = some b) w (w.setRow g cur) := fun cur => (fr_grown (grown_setRow cur)).weak fun b hb => by rw [hg]; exact hb
              have hkeep : ∀ (S : Nat → Prop) (cur : Array Value), (∀ b, S b → b < w.heap.size ∧ b ≠ g) → ∀ b o, S b → (w.setRow g cur).cell? ⟨b, o, none⟩ = w.cell? ⟨b, o, none⟩ := by
                intro S cur hS b o hb
                have := (hfr cur).block b (hS b hb).1 (fun e => (hS b hb).2 (by rw [hg] at e; cases e; rfl))
                simp [World.cell?, this]
              have hap : ∀ b, S b → b < w.heap.size ∧ b ≠ g := fun b hb => ⟨hr.Sold b hb, fun e => hr.apart id en m g he hm hg (e ▸ hb)⟩
              cases en with
              | box t' l =>
                simp only at h
                cases hs : setCells l (i + j) (cellsOf v) with
                | none => rw [hs] at h; cases h
                | some l' =>
                  rw [hs] at h
                  obtain ⟨rfl, hle⟩ := setCells_of hs
                  simp only [EntR] at hen
                  obtain ⟨g', css, e1, e2, e3, e4, e5, e6, e7, e8⟩ := hen
                  rw [hg] at e1
                  cases e1
                  have e6' := e6
                  rw [singles e7] at e6'
                  have hlen := RepL.length e6'
                  simp only [List.length_map] at hlen
                  have hle' : i * m.es + j + us.length ≤ css.flatten.toArray.size := by rw [e2, List.size_toArray]; omega
                  refine ⟨_, h, (does_skip (hrun _ _ e8 hle') (hr.write he hm (hfr _) ?_) (hfr _)).mono hM⟩
                  unfold EntR
                  refine ⟨g, (over css.flatten (i + j) us).map ([·]), hg, e2, by rw [setAt_cnt]; exact e3, by rw [setAt_cnt]; exact e4, by rw [setAt_cnt]; exact e5, ?_, ?_, ?_⟩
                  · exact RepL.setAt _ us _ _ _ (RepL.keep _ _ e6' (hkeep S _ hap) fun _ h => h) (RepL.keep _ _ hu2 (hkeep S _ hap) fun _ h => h)
                  · intro cs hcs
                    obtain ⟨u, _, rfl⟩ := List.mem_map.1 hcs
                    rfl
                  · rw [flat_singles, splice_over hle', e2, Nat.mul_one]
                    exact blk_setRow e8 _
              | lini t' kk l =>
                simp only at h
                cases hj : Nat.beq j 0 with
                | false => rw [hj] at h; cases v <;> simp at h
                | true =>
                  have := beq_true hj
                  subst this
                  rw [hj] at h
                  cases v with
                  | int kk' q =>
                    simp only at h
                    cases hk : kbeq kk kk' with
                    | false => rw [hk] at h; cases h
                    | true =>
                      have := kbeq_true hk
                      subst this
                      rw [hk] at h
                      obtain ⟨hlt, h⟩ := chk_some h
                      have hlt' : i < l.length := by simpa using hlt
                      obtain ⟨hye, hin⟩ := Rep1.int hry
                      have hus := hu5 rfl
                      rw [hye] at hus
                      subst hus
                      simp only [EntR] at hen
                      obtain ⟨e1, e2, e3, e4, e5, e6, e7⟩ := hen
                      obtain ⟨cur, hb, hc, htk⟩ := e7 g hg
                      have hle' : i * m.es + 0 + ([Value.int kk q] : List Value).length ≤ cur.size := by rw [e1, hc]; simp; omega
                      refine ⟨_, h, (does_skip (hrun _ _ hb hle') (hr.write he hm (hfr _) ?_) (hfr _)).mono hM⟩
                      unfold EntR
                      refine ⟨e1, by simp [e2], e3, e4, fun z hz => ?_, e6, fun g' hg' => ?_⟩
                      · rcases List.mem_or_eq_of_mem_set hz with hz | rfl
                        · exact e5 z hz
                        · exact hin
                      · rw [hg] at hg'
                        cases hg'
                        refine ⟨_, blk_setRow hb _, ?_, ?_⟩
                        · rw [splice_over hle', List.size_toArray, over_length]
                          simpa using hc
                        · rw [splice_over hle', e1]
                          simp only [Nat.mul_one, Nat.add_zero, set_over] at htk ⊢
                          rw [List.take_set, htk, List.map_set]
                  | _ => simp at h
              | linr t' T l =>
                simp only at h
                obtain ⟨s1, v1, S1, h1, h2, h3, h4, h5⟩ := plain_ok 9 hr hry h
                cases he1 : get s1.h id with
                | none => rw [he1] at h1; simp at h1
                | some en1 =>
                  rw [he1] at h1
                  obtain ⟨m1, hm1, hen1⟩ := h2.ents id en1 he1
                  rw [hm] at hm1
                  cases hm1
                  cases en1 with
                  | linr t1 T1 l1 =>
                    simp only at h1
                    cases hsc : setCells (cellsOf (enc T1 (l1.getD i default))) j (cellsOf v1) with
                    | none => rw [hsc] at h1; cases h1
                    | some cs =>
                      rw [hsc] at h1
                      simp only at h1
                      cases hdc : dec T1 (oneOf cs) with
                      | none => rw [hdc] at h1; cases h1
                      | some rc =>
                        rw [hdc] at h1
                        simp only at h1
                        cases hfl : flat v1 with
                        | false => rw [hfl] at h1; cases h1
                        | true =>
                            rw [hfl] at h1
                            obtain ⟨hlt, h1⟩ := chk_some h1
                            have hi1 : i < l1.length := by simpa using hlt
                            obtain ⟨us1, q1, q2, q3, q4, q5⟩ := cells_ok h3 hfl
                            have hus1 : us1 = us := by rw [hu1] at q1; simpa using q1.symm
                            subst hus1
                            obtain ⟨rfl, hle⟩ := setCells_of hsc
                            simp only [EntR] at hen1
                            obtain ⟨e1, e2, e3, e4, e6, e7⟩ := hen1
                            obtain ⟨cur, css, hb, hcz, hrr, htk⟩ := e7 g hg
                            obtain ⟨c0, hc0, hrec⟩ := hrr.at_ i hi1
                            have hl0 := hrec.len
                            have hcl := RepL.length (rec_cells (σ := σ) hrec)
                            simp only [List.length_map] at hcl
                            have hin : i * esz T1 + esz T1 ≤ m.n * esz T1 := by
                              rw [← Nat.succ_mul]
                              exact Nat.mul_le_mul_right _ (by omega)
                            have hcap : m.n * esz T1 ≤ m.cap * esz T1 := Nat.mul_le_mul_right _ e3
                            have hle' : i * m.es + j + us1.length ≤ cur.size := by rw [e1, hcz]; omega
                            have hap1 : ∀ b, S1 b → b < w.heap.size ∧ b ≠ g := fun b hb' => ⟨h2.Sold b hb', fun e => h2.apart id _ m g he1 hm hg (e ▸ hb')⟩
                            refine ⟨_, h1, (does_skip (hrun _ _ hb hle') (h2.write he1 hm (hfr _) ?_) (hfr _)).mono hM⟩
                            have hnew : RecRep w S1 T1 rc (over c0 j us1) := dec_ok (σ := σ) (RepL.setAt _ us1 _ _ j (rec_cells hrec) q2) hdc
                            unfold EntR
                            refine ⟨e1, by simp [e2], e3, e4, e6, fun g' hg' => ?_⟩
                            rw [hg] at hg'
                            cases hg'
                            refine ⟨_, css.set i (over c0 j us1), blk_setRow hb _, ?_, ?_, ?_⟩
                            · rw [splice_over hle', List.size_toArray, over_length]
                              simpa using hcz
                            · exact (hrr.set i hnew).keep (hkeep S1 _ hap1) fun _ h => h
                            · rw [splice_over hle', e1, List.toList_toArray, take_over (by omega) (by simp; omega), htk]
                              exact flat_over (esz T1) css hrr.es hc0 (by omega)
                  | _ => simp at h1
              | _ => simp at h
          | _ => simp at h
end
end Go.Proofs.Ytokeanadhihlfaa.V


set_option linter.all false
namespace Go.Proofs.Ytokeanadhihlfaa.V
open Go Go.RowKit

section
variable {P : Program} {Γ : TEnv} {n : Nat} {F0 : Fx} {w0 w w' : World} {σ σ' : Sg} {S S' : Nat → Prop} {s s' : AS} {a : Act}

theorem inOrder_of : ∀ {qs : List (Nat × AV)} {m len : Nat}, inOrder m len qs = true → qs.map (·.1) = List.range' m qs.length ∧ m + qs.length = len
  | [], m, len, h => by simp only [inOrder] at h; have := beq_true h; simpa using this
  | (i, x) :: qs, m, len, h => by
    simp only [inOrder] at h
    cases hb : Nat.beq i m with
    | false => rw [hb] at h; cases h
    | true =>
      rw [hb] at h
      have := beq_true hb
      subst this
      obtain ⟨h1, h2⟩ := inOrder_of h
      refine ⟨by simp [List.range'_succ, h1], by simp; omega⟩
/-- All places filled, one after another. -/
theorem fill_all (size : Nat) : ∀ (vs : List Value) (css : List (List Value)) (pre init : List Value) (m : Nat), pre.length = m * size → init.length = vs.length * size →
    (∀ (i : Nat) (v : Value), vs[i]? = some v → ∃ cs, css[i]? = some cs ∧ v.cells = cs.toArray ∧ cs.length = size) → css.length = vs.length →
      Instr.fill (fun i => some (i * size, size)) (pre ++ init).toArray ((List.range' m vs.length).zip vs) = some (pre ++ css.flatten).toArray
  | [], css, pre, init, m, hp, hi, hc, hl => by
    have h1 : init = [] := List.eq_nil_of_length_eq_zero (by simpa using hi)
    have h2 : css = [] := List.eq_nil_of_length_eq_zero (by simpa using hl)
    subst h1 h2
    simp [Instr.fill]
  | v :: vs, css, pre, init, m, hp, hi, hc, hl => by
    obtain ⟨cs, h1, h2, h3⟩ := hc 0 v rfl
    match css, h1 with
    | c :: css', h1 =>
      simp at h1
      subst h1
      simp only [List.length_cons, Nat.succ_mul] at hi
      have ih := fill_all size vs css' (pre ++ c) (init.drop size) (m + 1) (by rw [List.length_append, hp, h3, Nat.succ_mul]) (by rw [List.length_drop, hi]; omega) (fun i u hu => by
        obtain ⟨q, q1, q2⟩ := hc (i + 1) u (by simpa using hu)
        exact ⟨q, by simpa using q1, q2⟩) (by simpa using hl)
      simp only [List.length_cons, List.range'_succ, List.zip_cons_cons, Instr.fill, h2]
      rw [if_neg (by simp [h3, hp, hi] <;> omega), over_fold, over_splice _ _ _ (by rw [List.length_append, hp, h3, hi]; omega)]
      have e1 : (pre ++ init).take (m * size) = pre := by rw [← hp, List.take_left]
      have e2 : (pre ++ init).drop (m * size + c.length) = init.drop size := by rw [h3, ← hp, List.drop_append, List.drop_eq_nil_of_le (by omega), Nat.add_sub_cancel_left, List.nil_append]
      rw [e1, e2, ih]
      simp
/-- What a literal of a slice makes. -/
theorem run_lit {t e : TypeId} {i : TypeInfo} {z : Value} (hu : P.underlying t = some (.slice e)) (hi : P.info? e = some i) (hz : i.zero = some z) (hpos : 0 < i.size) (hsm : i.size ≤ 6) {ps : Array (Nat × Value)} {vs : List Value} {css : List (List Value)}
    (hps : ps.toList = (List.range' 0 vs.length).zip vs) (hlen : vs.length ≤ 1000) (hc : ∀ (j : Nat) (v : Value), vs[j]? = some v → ∃ cs, css[j]? = some cs ∧ v.cells = cs.toArray ∧ cs.length = i.size) (hl : css.length = vs.length) (w : World) :
    (Instr.buildSlice t vs.length ps).run P w = .ok (.slice (some ⟨w.heap.size, 0, none⟩) vs.length vs.length) (w.alloc (.cells css.flatten.toArray e)) := by
  have hz2 : vs.length * i.size ≤ 1000 * 6 := Nat.mul_le_mul hlen hsm
  by_cases h0 : vs.length = 0
  · have hv : vs = [] := List.eq_nil_of_length_eq_zero h0
    subst hv
    have hc0 : css = [] := List.eq_nil_of_length_eq_zero (by simpa using hl)
    subst hc0
    have hp0 : ps.toList = [] := by simpa using hps
    simp [Instr.buildSlice, run_underlying hu, sizeOf, typeInfo, hi, newRow, hp0, Instr.fill, Array.range_zero']
  · refine run_buildSlice w t e vs.length ps _ i z hu hi hz (by omega) (by have : 0 < vs.length * i.size := Nat.mul_pos (by omega) hpos; omega) ?_
    rw [hps]
    have := fill_all i.size vs css [] (((Array.range (vs.length * i.size)).map (z.cells[· % z.cells.size]!)).toList) 0 (by simp) (by simp) hc hl
    rw [List.nil_append, Array.toArray_toList, List.nil_append] at this
    exact this
theorem lit_rel (hr : Rel n F0 w0 σ S s a w) {d : Nat} (hd : d < n) {e : TypeId} {cs : List Value} {ent : AV} {m : Mb} (hg : m.g = some w.heap.size) (hm : ∀ σ', EntR (w.alloc (.cells cs.toArray e)) S σ' ent m) :
    Rel n F0 w0 (upd σ d m) S (s.new d ent (.ownf d)) (a.put (some d) (.slice (m.addr 0) m.n m.cap)) (w.alloc (.cells cs.toArray e)) :=
  (hr.fresh (fr_alloc w _ _) hd (hm _) (fun g h => by rw [hg] at h; cases h; exact Nat.le_refl _)).tput hd rep_ownf
theorem dec_flat {T : Nat} {x : AV} {rc : Rec} (h : dec T x = some rc) : flat x = true ∧ oneOf (cellsOf x) = x := by
  have bf : ∀ (y : AV) l, bytesOf y = some l → isCell y = true ∧ flat y = true ∧ cellsOf y = [y] := by
    intro y l hy
    cases y <;> simp [bytesOf] at hy <;> exact ⟨rfl, rfl, rfl⟩
  cases T with
  | zero =>
    simp only [dec] at h
    split at h
    · rename_i a f b c d y
      cases hb : bytesOf y with
      | none => rw [hb] at h; cases h
      | some l => exact ⟨by cases y <;> simp [bytesOf] at hb <;> rfl, rfl⟩
    · cases h
  | succ T =>
    simp only [dec] at h
    cases hb : bytesOf x with
    | none => rw [hb] at h; cases h
    | some l => obtain ⟨_, h2, h3⟩ := bf x l hb; exact ⟨h2, by rw [h3]; rfl⟩
/-- Parts without names. -/
theorem plainL_ok {k : AS → List (Nat × AV) → Prop} : ∀ (qs : List (Nat × AV)) {s : AS} {S : Nat → Prop} {acc : List (Nat × AV)} {va vs : List Value}, Rel n F0 w0 σ S s a w →
    va.length = acc.length → (∀ (i : Nat) (q : Nat × AV), acc.reverse[i]? = some q → ∃ v, va[i]? = some v ∧ RepV w S σ q.2 v ∧ refAV q.2 = none) →
    vs.length = qs.length → (∀ (i : Nat) (q : Nat × AV), qs[i]? = some q → ∃ v, vs[i]? = some v ∧ RepV w S σ q.2 v) → plainL s acc k qs →
    ∃ s' qs' S', k s' qs' ∧ Rel n F0 w0 σ S' s' a w ∧ (∀ b, S b → S' b) ∧ qs'.length = (va ++ vs).length ∧ ∀ (i : Nat) (q : Nat × AV), qs'[i]? = some q → ∃ v, (va ++ vs)[i]? = some v ∧ RepV w S' σ q.2 v ∧ refAV q.2 = none
  | [], s, S, acc, va, vs, hr, hl, ha, hv, _, h => by
    simp only [plainL] at h
    have : vs = [] := List.eq_nil_of_length_eq_zero (by simpa using hv)
    subst this
    exact ⟨s, _, S, h, hr, fun _ h => h, by simp [hl], by simpa using ha⟩
  | (i, x) :: qs, s, S, acc, va, [], hr, hl, ha, hv, hq, h => by simp at hv
  | (i, x) :: qs, s, S, acc, va, v :: vs, hr, hl, ha, hv, hq, h => by
    simp only [plainL] at h
    obtain ⟨v', hv', hx⟩ := hq 0 _ rfl
    simp only [List.getElem?_cons_zero, Option.some.injEq] at hv'
    subst hv'
    obtain ⟨s1, y, S1, h1, h2, h3, h4, h5⟩ := plain_ok 9 hr hx h
    obtain ⟨s', qs', S', g1, g2, g3, g4, g5⟩ := plainL_ok qs (acc := (i, y) :: acc) (va := va ++ [v]) (vs := vs) h2 (by simp [hl]) (fun j q hj => by
      simp only [List.reverse_cons, List.getElem?_append] at hj
      split at hj
      · rename_i hlt
        obtain ⟨u, hu, hru, hrf⟩ := ha j q hj
        refine ⟨u, ?_, hru.keep (fun _ _ _ => rfl) h5, hrf⟩
        rw [List.getElem?_append_left (by simp at hlt; omega)]
        exact hu
      · rename_i hge
        have hjl : j = acc.length := by
          simp only [List.length_reverse] at hge hj
          rcases Nat.lt_or_ge (j - acc.length) 1 with h | h
          · omega
          · rw [List.getElem?_eq_none (by simpa using h)] at hj; cases hj
        subst hjl
        simp at hj
        subst hj
        exact ⟨v, by rw [← hl]; simp, h3, h4⟩) (by simpa using hv) (fun j q hj => by
      obtain ⟨u, hu, hru⟩ := hq (j + 1) q (by simpa using hj)
      exact ⟨u, by simpa using hu, hru.keep (fun _ _ _ => rfl) h5⟩) h1
    exact ⟨s', qs', S', g1, g2, fun b hb => g3 b (h5 b hb), by simpa using g4, fun j q hj => by simpa using g5 j q hj⟩
theorem ints_vals {kk : IntKind} : ∀ {qs : List (Nat × AV)} {vs : List Value} {l : List Int}, vs.length = qs.length → (∀ (i : Nat) (q : Nat × AV), qs[i]? = some q → ∃ v, vs[i]? = some v ∧ RepV w S σ q.2 v) → intsOf kk qs = some l →
    vs = l.map (Value.int kk) ∧ ∀ m ∈ l, inK kk m = true
  | [], [], l, _, _, h => by simp only [intsOf] at h; cases h; simp
  | [], _ :: _, _, hl, _, _ => by simp at hl
  | _ :: _, [], _, hl, _, _ => by simp at hl
  | (i, x) :: qs, v :: vs, l, hl, hq, h => by
    cases x with
    | int k' m =>
      simp only [intsOf] at h
      cases hk : kbeq kk k' with
      | false => rw [hk] at h; cases h
      | true =>
        rw [hk] at h
        have := kbeq_true hk
        subst this
        cases hr : intsOf kk qs with
        | none => rw [hr] at h; cases h
        | some l' =>
          rw [hr] at h
          cases h
          obtain ⟨v', hv', hx⟩ := hq 0 _ rfl
          simp only [List.getElem?_cons_zero, Option.some.injEq] at hv'
          subst hv'
          obtain ⟨rfl, hin⟩ := Rep1.int hx
          obtain ⟨rfl, h2⟩ := ints_vals (vs := vs) (by simpa using hl) (fun j q hj => by
            obtain ⟨u, hu, hru⟩ := hq (j + 1) q (by simpa using hj)
            exact ⟨u, by simpa using hu, hru⟩) hr
          refine ⟨by simp, fun z hz => ?_⟩
          rcases List.mem_cons.1 hz with rfl | hz
          · exact hin
          · exact h2 z hz
    | _ => simp [intsOf] at h
theorem recs_vals {T : Nat} : ∀ {qs : List (Nat × AV)} {vs : List Value} {l : List Rec}, vs.length = qs.length → (∀ (i : Nat) (q : Nat × AV), qs[i]? = some q → ∃ v, vs[i]? = some v ∧ RepV w S σ q.2 v ∧ refAV q.2 = none) → recsOf T qs = some l →
    ∃ css, RecsRep w S T l css ∧ css.length = vs.length ∧ (∀ (j : Nat) (v : Value), vs[j]? = some v → ∃ cs, css[j]? = some cs ∧ v.cells = cs.toArray ∧ cs.length = esz T)
  | [], [], l, _, _, h => by simp only [recsOf] at h; cases h; exact ⟨[], trivial, rfl, by simp⟩
  | [], _ :: _, _, hl, _, _ => by simp at hl
  | _ :: _, [], _, hl, _, _ => by simp at hl
  | (i, x) :: qs, v :: vs, l, hl, hq, h => by
    simp only [recsOf] at h
    cases hd : dec T x with
    | none => rw [hd] at h; cases h
    | some rc =>
      rw [hd] at h
      simp only at h
      cases hr : recsOf T qs with
      | none => rw [hr] at h; cases h
      | some l' =>
        rw [hr] at h
        cases h
        obtain ⟨v', hv', hx, _⟩ := hq 0 _ rfl
        simp only [List.getElem?_cons_zero, Option.some.injEq] at hv'
        subst hv'
        obtain ⟨hf, ho⟩ := dec_flat hd
        obtain ⟨us, u1, u2, _, _, _⟩ := cells_ok hx hf
        have hrec : RecRep w S T rc us := dec_ok (σ := σ) u2 (by rw [ho]; exact hd)
        obtain ⟨css, g1, g2, g3⟩ := recs_vals (vs := vs) (by simpa using hl) (fun j q hj => by
          obtain ⟨u, hu, hru⟩ := hq (j + 1) q (by simpa using hj)
          exact ⟨u, by simpa using hu, hru⟩) hr
        refine ⟨us :: css, ⟨hrec, g1⟩, by simp [g2], fun j u hu => ?_⟩
        cases j with
        | zero => simp at hu; subst hu; exact ⟨us, rfl, u1, hrec.len⟩
        | succ j => obtain ⟨cs, c1, c2⟩ := g3 j u (by simpa using hu); exact ⟨cs, by simpa using c1, c2⟩
theorem cells_vals : ∀ {qs : List (Nat × AV)} {vs : List Value} {l : List AV}, vs.length = qs.length → (∀ (i : Nat) (q : Nat × AV), qs[i]? = some q → ∃ v, vs[i]? = some v ∧ RepV w S σ q.2 v ∧ refAV q.2 = none) → cellsOne qs = some l →
    (∀ σ', RepL w S σ' l (vs.map ([·]))) ∧ (∀ (j : Nat) (v : Value), vs[j]? = some v → v.cells = #[v]) ∧ cnt l = vs.length
  | [], [], l, _, _, h => by simp only [cellsOne] at h; cases h; exact ⟨fun _ => rfl, by simp, rfl⟩
  | [], _ :: _, _, hl, _, _ => by simp at hl
  | _ :: _, [], _, hl, _, _ => by simp at hl
  | (i, x) :: qs, v :: vs, l, hl, hq, h => by
    simp only [cellsOne] at h
    cases hc : isCell x with
    | false => rw [hc] at h; simp at h
    | true =>
      cases hf : flat x with
      | false => rw [hc, hf] at h; simp at h
      | true =>
        rw [hc, hf] at h
        simp only at h
        cases hr : cellsOne qs with
        | none => rw [hr] at h; cases h
        | some l' =>
          rw [hr] at h
          cases h
          obtain ⟨v', hv', hx, hrf⟩ := hq 0 _ rfl
          simp only [List.getElem?_cons_zero, Option.some.injEq] at hv'
          subst hv'
          obtain ⟨us, u1, u2, _, _, u5⟩ := cells_ok hx hf
          have hus := u5 hc
          subst hus
          obtain ⟨g1, g2, g3⟩ := cells_vals (vs := vs) (by simpa using hl) (fun j q hj => by
            obtain ⟨u, hu, hru⟩ := hq (j + 1) q (by simpa using hj)
            exact ⟨u, by simpa using hu, hru⟩) hr
          have hco : cellsOf x = [x] := by cases x <;> first | rfl | simp [isCell] at hc
          rw [hco] at u2
          simp only [List.map_cons, List.map_nil, RepL] at u2
          obtain ⟨c1, css', e1, r1, e2⟩ := u2
          subst e2
          simp only [List.cons.injEq, and_true] at e1
          subst e1
          refine ⟨fun σ' => ?_, fun j u hu => ?_, by simp [cnt, g3]⟩
          · simp only [List.map_cons, RepL]
            exact ⟨_, _, rfl, Rep.free _ _ hrf r1, g1 σ'⟩
          · cases j with
            | zero => simp at hu; subst hu; exact u1
            | succ j => exact g2 j u (by simpa using hu)
theorem lit_ok (hΓ : TOk P Γ) (hr : Rel n F0 w0 σ S s a w) {d : Nat} (hd : d < n) {t : TypeId} {len : Nat} {ps : Array (Nat × Operand)} {k : AS → Prop} (C : Oracle) (pm : FuncId → Option Pm) (h : wop Γ C pm s (some d) (.buildSlice t len ps) k) :
    ∃ s', k s' ∧ Does P n F0 w0 σ a w (some d) (.buildSlice t len ps) (fun _ => False) s' := by
  simp only [wop] at h
  cases hp : partsOf s ps.toList with
  | none => rw [hp] at h; cases h
  | some qs =>
    rw [hp] at h
    simp only at h
    obtain ⟨vs, p1, p2, p3⟩ := parts_ok hr hp
    unfold mkSlice at h
    cases ho : inOrder 0 len qs with
    | false => rw [ho] at h; simp at h
    | true =>
      cases hb : Nat.ble len 1000 with
      | false => rw [ho, hb] at h; simp at h
      | true =>
        rw [ho, hb] at h
        simp only at h
        obtain ⟨o1, o2⟩ := inOrder_of ho
        have hlen : len = vs.length := by omega
        subst hlen
        have hle : vs.length ≤ 1000 := Nat.le_of_ble_eq_true hb
        have hpl : (ps.map fun (i, x) => (i, a.eval x)).toList = (List.range' 0 vs.length).zip vs := by
          rw [p1, ← o1, ← p2]
          simp
        have hσ : ∀ m : Mb, ∀ id, some d ≠ some id → upd σ d m id = σ id := fun m id hid => by simp [upd]; intro e; exact absurd (by rw [e]) hid
        cases ht : tget Γ t with
        | none => rw [ht] at h; cases h
        | some ti =>
          have hti := hΓ t ti ht
          rw [ht] at h
          cases ti with
          | sl e ek =>
            obtain ⟨hu, _, hek⟩ := hti
            cases ek with
            | i kk =>
              simp only at h
              cases hi : intsOf kk qs with
              | none => rw [hi] at h; cases h
              | some l =>
                rw [hi] at h
                obtain ⟨hue, i, hie, his, hiz, _⟩ := hek
                obtain ⟨hvs, hrg⟩ := ints_vals p1 p3 hi
                have hl : l.length = vs.length := by rw [hvs]; simp
                have hrun := fun w => run_lit (css := vs.map ([·])) hu hie hiz (by omega) (by omega) hpl hle (fun j v hj => ⟨[v], by simp [hj], by
                  rw [hvs, List.getElem?_map] at hj
                  cases hq : l[j]? with
                  | none => rw [hq] at hj; cases hj
                  | some q => rw [hq] at hj; simp at hj; subst hj; rfl, by rw [his]; rfl⟩) (by simp) w
                simp only [flat_singles] at hrun
                refine ⟨_, h, does_run (σ' := upd σ d ⟨some w.heap.size, 1, vs.length, vs.length⟩) (S' := S) (fun o ho => ?_) (lit_rel hr hd (e := e) (cs := vs) (m := ⟨some w.heap.size, 1, vs.length, vs.length⟩) rfl fun σ' => ?_) (fr_alloc w _ _) (hσ _)⟩
                · simp only [execOp, ho, Sem.run_bind, hrun w, Result.andThen_ok, Sem.run_pure, Mb.addr, Option.map_some, Nat.zero_mul]
                · unfold EntR
                  refine ⟨rfl, hl.symm, Nat.le_refl _, (by show vs.length ≤ maxLen; unfold maxLen; omega), hrg, (fun h => by cases h), fun g hg => ?_⟩
                  cases hg
                  exact ⟨_, Blk.new w e vs.toArray, by simp, by show (vs.toArray.toList.take (vs.length * 1)) = _; rw [Nat.mul_one, List.toList_toArray, List.take_length]; exact hvs⟩
            | r T =>
              simp only at h
              obtain ⟨i, z, hie, hiz, his, hzs, _⟩ := hek
              obtain ⟨s1, qs1, S1, g1, g2, g3, g4, g5⟩ := plainL_ok qs (va := []) (vs := vs) hr rfl (by simp) p1 p3 h
              simp only [List.nil_append] at g4 g5
              cases hi : recsOf T qs1 with
              | none => rw [hi] at g1; cases g1
              | some l =>
                rw [hi] at g1
                obtain ⟨css, c1, c2, c3⟩ := recs_vals (by omega) g5 hi
                have hl : l.length = vs.length := by rw [← c2, c1.len]
                have hrun := fun w => run_lit (css := css) hu hie hiz (by rw [his]; cases T <;> simp [esz]) (by rw [his]; cases T <;> simp [esz]) hpl hle (fun j v hj => by rw [his]; exact c3 j v hj) c2 w
                have hkeep : ∀ b o, S1 b → (w.alloc (.cells css.flatten.toArray e)).cell? ⟨b, o, none⟩ = w.cell? ⟨b, o, none⟩ := fun b o hb => by
                  have := (fr_alloc w (.cells css.flatten.toArray e) (fun _ => False)).block b (g2.Sold b hb) id
                  simp [World.cell?, this]
                refine ⟨_, g1, does_run (σ' := upd σ d ⟨some w.heap.size, esz T, vs.length, vs.length⟩) (S' := S1) (fun o ho => ?_) (lit_rel g2 hd (e := e) (cs := css.flatten) (m := ⟨some w.heap.size, esz T, vs.length, vs.length⟩) rfl fun σ' => ?_) (fr_alloc w _ _) (hσ _)⟩
                · simp only [execOp, ho, Sem.run_bind, hrun w, Result.andThen_ok, Sem.run_pure, Mb.addr, Option.map_some, Nat.zero_mul]
                · unfold EntR
                  refine ⟨rfl, hl.symm, Nat.le_refl _, (by show vs.length ≤ maxLen; unfold maxLen; omega), (fun h => by cases h), fun g hg => ?_⟩
                  cases hg
                  refine ⟨_, css, Blk.new w e css.flatten.toArray, by rw [List.size_toArray, flat_len (esz T) css c1.es, c2], c1.keep hkeep fun _ h => h, ?_⟩
                  rw [List.toList_toArray, List.take_of_length_le]
                  rw [flat_len (esz T) css c1.es, c2]
                  exact Nat.le_refl _
            | c =>
              simp only at h
              obtain ⟨i, z, hie, hiz, his, hzs, _⟩ := hek
              obtain ⟨s1, qs1, S1, g1, g2, g3, g4, g5⟩ := plainL_ok qs (va := []) (vs := vs) hr rfl (by simp) p1 p3 h
              simp only [List.nil_append] at g4 g5
              cases hi : cellsOne qs1 with
              | none => rw [hi] at g1; cases g1
              | some l =>
                rw [hi] at g1
                obtain ⟨c1, c2, c3⟩ := cells_vals (by omega) g5 hi
                have hrun := fun w => run_lit (css := vs.map ([·])) hu hie hiz (by omega) (by omega) hpl hle (fun j v hj => ⟨[v], by simp [hj], c2 j v hj, by rw [his]; rfl⟩) (by simp) w
                simp only [flat_singles] at hrun
                have hkeep : ∀ b o, S1 b → (w.alloc (.cells vs.toArray e)).cell? ⟨b, o, none⟩ = w.cell? ⟨b, o, none⟩ := fun b o hb => by
                  have := (fr_alloc w (.cells vs.toArray e) (fun _ => False)).block b (g2.Sold b hb) id
                  simp [World.cell?, this]
                refine ⟨_, g1, does_run (σ' := upd σ d ⟨some w.heap.size, 1, cnt l, cnt l⟩) (S' := S1) (fun o ho => ?_) (lit_rel g2 hd (e := e) (cs := vs) (m := ⟨some w.heap.size, 1, cnt l, cnt l⟩) rfl fun σ' => ?_) (fr_alloc w _ _) (hσ _)⟩
                · simp only [execOp, ho, Sem.run_bind, hrun w, Result.andThen_ok, Sem.run_pure, Mb.addr, Option.map_some, Nat.zero_mul, c3]
                · exact ent_box (RepL.keep _ _ (c1 σ') hkeep fun _ h => h) (by rw [c3]; unfold maxLen; omega) (Blk.new w e vs.toArray)
          | _ => simp at h
theorem made_one (v : Value) (q : Nat) : (madeCells #[v] q).toList = List.replicate q v := by
  unfold madeCells
  apply List.ext_getElem?
  intro j
  simp only [Array.toList_map, Array.toList_range, List.getElem?_map, List.getElem?_replicate]
  by_cases h : j < q
  · simp [h, List.getElem?_range, Nat.mod_one]
  · simp [h]
theorem make_ok (hΓ : TOk P Γ) (hr : Rel n F0 w0 σ S s a w) {d : Nat} (hd : d < n) {t : TypeId} {x y : Operand} {k : AS → Prop} (C : Oracle) (pm : FuncId → Option Pm) (h : wop Γ C pm s (some d) (.makeSlice t x y) k) :
    ∃ s', k s' ∧ Does P n F0 w0 σ a w (some d) (.makeSlice t x y) (fun _ => False) s' := by
  simp only [wop] at h
  cases hx : aval s x with
  | none => rw [hx] at h; simp at h
  | some xa =>
    cases hy : aval s y with
    | none => rw [hx, hy] at h; simp at h
    | some ya =>
      rw [hx, hy] at h
      simp only at h
      unfold mkMake at h
      cases ht : tget Γ t with
      | none => rw [ht] at h; simp at h
      | some ti =>
        have hti := hΓ t ti ht
        rw [ht] at h
        split at h
        · rename_i e kk q c heq
          cases heq
          obtain ⟨hb, h⟩ := chk_some h
          simp only [Bool.and_eq_true, decide_eq_true_eq] at hb
          obtain ⟨⟨b0, b1⟩, b2⟩ := hb
          obtain ⟨hu, _, hue, i, hie, his, hiz, hiby⟩ := hti
          obtain ⟨ex, _⟩ := Rep1.int (aval_ok hr hx)
          obtain ⟨ey, _⟩ := Rep1.int (aval_ok hr hy)
          have hlim : ((lim : Nat) : Int) = 1099511627776 := rfl
          have hby : (i.bytes : Int) * c ≤ 281474976710656 := by
            have h1 : (i.bytes : Int) * c ≤ 128 * c := Int.mul_le_mul_of_nonneg_right (by omega) (by omega)
            omega
          have hrun := fun w => run_make (P := P) w t e i (.int kk 0) hu hie hiz .i64 .i64 q c b0 b1 hby (by omega)
          have hcur : (madeCells (Value.cells (.int kk 0)) (c.toNat * i.size)) = (List.replicate c.toNat (Value.int kk 0)).toArray := by
            apply Array.ext'
            rw [show Value.cells (.int kk 0) = #[.int kk 0] from rfl, made_one, his, Nat.mul_one]
          refine ⟨_, h, does_run (σ' := upd σ d ⟨some w.heap.size, 1, q.toNat, c.toNat⟩) (S' := S) (fun o ho => ?_) (lit_rel hr hd (e := e) (cs := List.replicate c.toNat (Value.int kk 0)) (m := ⟨some w.heap.size, 1, q.toNat, c.toNat⟩) rfl fun σ' => ?_) (fr_alloc w _ _) (fun id hid => by simp [upd]; intro e; exact absurd (by rw [e]) hid)⟩
          · simp only [execOp, ho, Sem.run_bind, ex, ey, hrun w, hcur, Result.andThen_ok, Sem.run_pure, Mb.addr, Option.map_some, Nat.zero_mul]
          · unfold EntR
            refine ⟨rfl, by simp, (by show q.toNat ≤ c.toNat; omega), (by show c.toNat ≤ maxLen; unfold maxLen; omega), fun z hz => ?_, (fun h => by cases h), fun g hg => ?_⟩
            · rw [List.eq_of_mem_replicate hz]; cases kk <;> rfl
            · cases hg
              refine ⟨_, Blk.new w e _, by simp, ?_⟩
              simp only [List.toList_toArray, Nat.mul_one, List.take_replicate, List.map_replicate]
              congr 1
              omega
        · cases h
end
end Go.Proofs.Ytokeanadhihlfaa.V
