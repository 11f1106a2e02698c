/-
  Literals of slices, make. Plain theorems; no function of the program is named here.
-/
import Derived.Test.YtnioiijcmdnhaaaVMem2
set_option linter.all false
namespace Go.Proofs.Ytnioiijcmdnhaaa.V
open Go Go.RowKit

section
variable {P : Program} {Γ : TEnv} {n : Nat} {F0 : Fx} {w0 w w' : World} {σ σ' : Sg} {S S' : Nat → Prop} {s s' : AS} {a : Act}

theorem inOrder_of : ∀ {qs : List (Nat × AV)} {m len : Nat}, inOrder m len qs = true → qs.map (·.1) = List.range' m qs.length ∧ m + qs.length = len
  | [], m, len, h => by simp only [inOrder] at h; have := beq_true h; simpa using this
  | (i, x) :: qs, m, len, h => by
    simp only [inOrder] at h
    cases hb : Nat.beq i m with
    | false => rw [hb] at h; cases h
    | true =>
      rw [hb] at h
      have := beq_true hb
      subst this
      obtain ⟨h1, h2⟩ := inOrder_of h
      refine ⟨by simp [List.range'_succ, h1], by simp; omega⟩
/-- All places filled, one after another. -/
theorem fill_all (size : Nat) : ∀ (vs : List Value) (css : List (List Value)) (pre init : List Value) (m : Nat), pre.length = m * size → init.length = vs.length * size →
    (∀ (i : Nat) (v : Value), vs[i]? = some v → ∃ cs, css[i]? = some cs ∧ v.cells = cs.toArray ∧ cs.length = size) → css.length = vs.length →
      Instr.fill (fun i => some (i * size, size)) (pre ++ init).toArray ((List.range' m vs.length).zip vs) = some (pre ++ css.flatten).toArray
  | [], css, pre, init, m, hp, hi, hc, hl => by
    have h1 : init = [] := List.eq_nil_of_length_eq_zero (by simpa using hi)
    have h2 : css = [] := List.eq_nil_of_length_eq_zero (by simpa using hl)
    subst h1 h2
    simp [Instr.fill]
  | v :: vs, css, pre, init, m, hp, hi, hc, hl => by
    obtain ⟨cs, h1, h2, h3⟩ := hc 0 v rfl
    match css, h1 with
    | c :: css', h1 =>
      simp at h1
      subst h1
      simp only [List.length_cons, Nat.succ_mul] at hi
      have ih := fill_all size vs css' (pre ++ c) (init.drop size) (m + 1) (by rw [List.length_append, hp, h3, Nat.succ_mul]) (by rw [List.length_drop, hi]; omega) (fun i u hu => by
        obtain ⟨q, q1, q2⟩ := hc (i + 1) u (by simpa using hu)
        exact ⟨q, by simpa using q1, q2⟩) (by simpa using hl)
      simp only [List.length_cons, List.range'_succ, List.zip_cons_cons, Instr.fill, h2]
      rw [if_neg (by simp [h3, hp, hi] <;> omega), over_fold, over_splice _ _ _ (by rw [List.length_append, hp, h3, hi]; omega)]
      have e1 : (pre ++ init).take (m * size) = pre := by rw [← hp, List.take_left]
      have e2 : (pre ++ init).drop (m * size + c.length) = init.drop size := by rw [h3, ← hp, List.drop_append, List.drop_eq_nil_of_le (by omega), Nat.add_sub_cancel_left, List.nil_append]
      rw [e1, e2, ih]
      simp
/-- What a literal of a slice makes. -/
theorem run_lit {t e : TypeId} {i : TypeInfo} {z : Value} (hu : P.underlying t = some (.slice e)) (hi : P.info? e = some i) (hz : i.zero = some z) (hpos : 0 < i.size) (hsm : i.size ≤ 6) {ps : Array (Nat × Value)} {vs : List Value} {css : List (List Value)}
    (hps : ps.toList = (List.range' 0 vs.length).zip vs) (hlen : vs.length ≤ 1000) (hc : ∀ (j : Nat) (v : Value), vs[j]? = some v → ∃ cs, css[j]? = some cs ∧ v.cells = cs.toArray ∧ cs.length = i.size) (hl : css.length = vs.length) (w : World) :
    (Instr.buildSlice t vs.length ps).run P w = .ok (.slice (some ⟨w.heap.size, 0, none⟩) vs.length vs.length) (w.alloc (.cells css.flatten.toArray e)) := by
  have hz2 : vs.length * i.size ≤ 1000 * 6 := Nat.mul_le_mul hlen hsm
  by_cases h0 : vs.length = 0
  · have hv : vs = [] := List.eq_nil_of_length_eq_zero h0
    subst hv
    have hc0 : css = [] := List.eq_nil_of_length_eq_zero (by simpa using hl)
    subst hc0
    have hp0 : ps.toList = [] := by simpa using hps
    simp [Instr.buildSlice, run_underlying hu, sizeOf, typeInfo, hi, newRow, hp0, Instr.fill, Array.range_zero']
  · refine run_buildSlice w t e vs.length ps _ i z hu hi hz (by omega) (by have : 0 < vs.length * i.size := Nat.mul_pos (by omega) hpos; omega) ?_
    rw [hps]
    have := fill_all i.size vs css [] (((Array.range (vs.length * i.size)).map (z.cells[· % z.cells.size]!)).toList) 0 (by simp) (by simp) hc hl
    rw [List.nil_append, Array.toArray_toList, List.nil_append] at this
    exact this
theorem lit_rel (hr : Rel n F0 w0 σ S s a w) {d : Nat} (hd : d < n) {e : TypeId} {cs : List Value} {ent : AV} {m : Mb} (hg : m.g = some w.heap.size) (hm : ∀ σ', EntR (w.alloc (.cells cs.toArray e)) S σ' ent m) :
    Rel n F0 w0 (upd σ d m) S (s.new d ent (.ownf d)) (a.put (some d) (.slice (m.addr 0) m.n m.cap)) (w.alloc (.cells cs.toArray e)) :=
  (hr.fresh (fr_alloc w _ _) hd (hm _) (fun g h => by rw [hg] at h; cases h; exact Nat.le_refl _)).tput hd rep_ownf
theorem dec_flat {T : Nat} {x : AV} {rc : Rec} (h : dec T x = some rc) : flat x = true ∧ oneOf (cellsOf x) = x := by
  have bf : ∀ (y : AV) l, bytesOf y = some l → isCell y = true ∧ flat y = true ∧ cellsOf y = [y] := by
    intro y l hy
    cases y <;> simp [bytesOf] at hy <;> exact ⟨rfl, rfl, rfl⟩
  cases T with
  | zero =>
    simp only [dec] at h
    split at h
    · rename_i a f b c d y
      cases hb : bytesOf y with
      | none => rw [hb] at h; cases h
      | some l => exact ⟨by cases y <;> simp [bytesOf] at hb <;> rfl, rfl⟩
    · cases h
  | succ T =>
    simp only [dec] at h
    cases hb : bytesOf x with
    | none => rw [hb] at h; cases h
    | some l => obtain ⟨_, h2, h3⟩ := bf x l hb; exact ⟨h2, by rw [h3]; rfl⟩
/-- Parts without names. -/
theorem plainL_ok {k : AS → List (Nat × AV) → Prop} : ∀ (qs : List (Nat × AV)) {s : AS} {S : Nat → Prop} {acc : List (Nat × AV)} {va vs : List Value}, Rel n F0 w0 σ S s a w →
    va.length = acc.length → (∀ (i : Nat) (q : Nat × AV), acc.reverse[i]? = some q → ∃ v, va[i]? = some v ∧ RepV w S σ q.2 v ∧ refAV q.2 = none) →
    vs.length = qs.length → (∀ (i : Nat) (q : Nat × AV), qs[i]? = some q → ∃ v, vs[i]? = some v ∧ RepV w S σ q.2 v) → plainL s acc k qs →
    ∃ s' qs' S', k s' qs' ∧ Rel n F0 w0 σ S' s' a w ∧ (∀ b, S b → S' b) ∧ qs'.length = (va ++ vs).length ∧ ∀ (i : Nat) (q : Nat × AV), qs'[i]? = some q → ∃ v, (va ++ vs)[i]? = some v ∧ RepV w S' σ q.2 v ∧ refAV q.2 = none
  | [], s, S, acc, va, vs, hr, hl, ha, hv, _, h => by
    simp only [plainL] at h
    have : vs = [] := List.eq_nil_of_length_eq_zero (by simpa using hv)
    subst this
    exact ⟨s, _, S, h, hr, fun _ h => h, by simp [hl], by simpa using ha⟩
  | (i, x) :: qs, s, S, acc, va, [], hr, hl, ha, hv, hq, h => by simp at hv
  | (i, x) :: qs, s, S, acc, va, v :: vs, hr, hl, ha, hv, hq, h => by
    simp only [plainL] at h
    obtain ⟨v', hv', hx⟩ := hq 0 _ rfl
    simp only [List.getElem?_cons_zero, Option.some.injEq] at hv'
    subst hv'
    obtain ⟨s1, y, S1, h1, h2, h3, h4, h5⟩ := plain_ok 9 hr hx h
    obtain ⟨s', qs', S', g1, g2, g3, g4, g5⟩ := plainL_ok qs (acc := (i, y) :: acc) (va := va ++ [v]) (vs := vs) h2 (by simp [hl]) (fun j q hj => by
      simp only [List.reverse_cons, List.getElem?_append] at hj
      split at hj
      · rename_i hlt
        obtain ⟨u, hu, hru, hrf⟩ := ha j q hj
        refine ⟨u, ?_, hru.keep (fun _ _ _ => rfl) h5, hrf⟩
        rw [List.getElem?_append_left (by simp at hlt; omega)]
        exact hu
      · rename_i hge
        have hjl : j = acc.length := by
          simp only [List.length_reverse] at hge hj
          rcases Nat.lt_or_ge (j - acc.length) 1 with h | h
          · omega
          · rw [List.getElem?_eq_none (by simpa using h)] at hj; cases hj
        subst hjl
        simp at hj
        subst hj
        exact ⟨v, by rw [← hl]; simp, h3, h4⟩) (by simpa using hv) (fun j q hj => by
      obtain ⟨u, hu, hru⟩ := hq (j + 1) q (by simpa using hj)
      exact ⟨u, by simpa using hu, hru.keep (fun _ _ _ => rfl) h5⟩) h1
    exact ⟨s', qs', S', g1, g2, fun b hb => g3 b (h5 b hb), by simpa using g4, fun j q hj => by simpa using g5 j q hj⟩
theorem ints_vals {kk : IntKind} : ∀ {qs : List (Nat × AV)} {vs : List Value} {l : List Int}, vs.length = qs.length → (∀ (i : Nat) (q : Nat × AV), qs[i]? = some q → ∃ v, vs[i]? = some v ∧ RepV w S σ q.2 v) → intsOf kk qs = some l →
    vs = l.map (Value.int kk) ∧ ∀ m ∈ l, inK kk m = true
  | [], [], l, _, _, h => by simp only [intsOf] at h; cases h; simp
  | [], _ :: _, _, hl, _, _ => by simp at hl
  | _ :: _, [], _, hl, _, _ => by simp at hl
  | (i, x) :: qs, v :: vs, l, hl, hq, h => by
    cases x with
    | int k' m =>
      simp only [intsOf] at h
      cases hk : kbeq kk k' with
      | false => rw [hk] at h; cases h
      | true =>
        rw [hk] at h
        have := kbeq_true hk
        subst this
        cases hr : intsOf kk qs with
        | none => rw [hr] at h; cases h
        | some l' =>
          rw [hr] at h
          cases h
          obtain ⟨v', hv', hx⟩ := hq 0 _ rfl
          simp only [List.getElem?_cons_zero, Option.some.injEq] at hv'
          subst hv'
          obtain ⟨rfl, hin⟩ := Rep1.int hx
          obtain ⟨rfl, h2⟩ := ints_vals (vs := vs) (by simpa using hl) (fun j q hj => by
            obtain ⟨u, hu, hru⟩ := hq (j + 1) q (by simpa using hj)
            exact ⟨u, by simpa using hu, hru⟩) hr
          refine ⟨by simp, fun z hz => ?_⟩
          rcases List.mem_cons.1 hz with rfl | hz
          · exact hin
          · exact h2 z hz
    | _ => simp [intsOf] at h
theorem recs_vals {T : Nat} : ∀ {qs : List (Nat × AV)} {vs : List Value} {l : List Rec}, vs.length = qs.length → (∀ (i : Nat) (q : Nat × AV), qs[i]? = some q → ∃ v, vs[i]? = some v ∧ RepV w S σ q.2 v ∧ refAV q.2 = none) → recsOf T qs = some l →
    ∃ css, RecsRep w S T l css ∧ css.length = vs.length ∧ (∀ (j : Nat) (v : Value), vs[j]? = some v → ∃ cs, css[j]? = some cs ∧ v.cells = cs.toArray ∧ cs.length = esz T)
  | [], [], l, _, _, h => by simp only [recsOf] at h; cases h; exact ⟨[], trivial, rfl, by simp⟩
  | [], _ :: _, _, hl, _, _ => by simp at hl
  | _ :: _, [], _, hl, _, _ => by simp at hl
  | (i, x) :: qs, v :: vs, l, hl, hq, h => by
    simp only [recsOf] at h
    cases hd : dec T x with
    | none => rw [hd] at h; cases h
    | some rc =>
      rw [hd] at h
      simp only at h
      cases hr : recsOf T qs with
      | none => rw [hr] at h; cases h
      | some l' =>
        rw [hr] at h
        cases h
        obtain ⟨v', hv', hx, _⟩ := hq 0 _ rfl
        simp only [List.getElem?_cons_zero, Option.some.injEq] at hv'
        subst hv'
        obtain ⟨hf, ho⟩ := dec_flat hd
        obtain ⟨us, u1, u2, _, _, _⟩ := cells_ok hx hf
        have hrec : RecRep w S T rc us := dec_ok (σ := σ) u2 (by rw [ho]; exact hd)
        obtain ⟨css, g1, g2, g3⟩ := recs_vals (vs := vs) (by simpa using hl) (fun j q hj => by
          obtain ⟨u, hu, hru⟩ := hq (j + 1) q (by simpa using hj)
          exact ⟨u, by simpa using hu, hru⟩) hr
        refine ⟨us :: css, ⟨hrec, g1⟩, by simp [g2], fun j u hu => ?_⟩
        cases j with
        | zero => simp at hu; subst hu; exact ⟨us, rfl, u1, hrec.len⟩
        | succ j => obtain ⟨cs, c1, c2⟩ := g3 j u (by simpa using hu); exact ⟨cs, by simpa using c1, c2⟩
theorem cells_vals : ∀ {qs : List (Nat × AV)} {vs : List Value} {l : List AV}, vs.length = qs.length → (∀ (i : Nat) (q : Nat × AV), qs[i]? = some q → ∃ v, vs[i]? = some v ∧ RepV w S σ q.2 v ∧ refAV q.2 = none) → cellsOne qs = some l →
    (∀ σ', RepL w S σ' l (vs.map ([·]))) ∧ (∀ (j : Nat) (v : Value), vs[j]? = some v → v.cells = #[v]) ∧ cnt l = vs.length
  | [], [], l, _, _, h => by simp only [cellsOne] at h; cases h; exact ⟨fun _ => rfl, by simp, rfl⟩
  | [], _ :: _, _, hl, _, _ => by simp at hl
  | _ :: _, [], _, hl, _, _ => by simp at hl
  | (i, x) :: qs, v :: vs, l, hl, hq, h => by
    simp only [cellsOne] at h
    cases hc : isCell x with
    | false => rw [hc] at h; simp at h
    | true =>
      cases hf : flat x with
      | false => rw [hc, hf] at h; simp at h
      | true =>
        rw [hc, hf] at h
        simp only at h
        cases hr : cellsOne qs with
        | none => rw [hr] at h; cases h
        | some l' =>
          rw [hr] at h
          cases h
          obtain ⟨v', hv', hx, hrf⟩ := hq 0 _ rfl
          simp only [List.getElem?_cons_zero, Option.some.injEq] at hv'
          subst hv'
          obtain ⟨us, u1, u2, _, _, u5⟩ := cells_ok hx hf
          have hus := u5 hc
          subst hus
          obtain ⟨g1, g2, g3⟩ := cells_vals (vs := vs) (by simpa using hl) (fun j q hj => by
            obtain ⟨u, hu, hru⟩ := hq (j + 1) q (by simpa using hj)
            exact ⟨u, by simpa using hu, hru⟩) hr
          have hco : cellsOf x = [x] := by cases x <;> first | rfl | simp [isCell] at hc
          rw [hco] at u2
          simp only [List.map_cons, List.map_nil, RepL] at u2
          obtain ⟨c1, css', e1, r1, e2⟩ := u2
          subst e2
          simp only [List.cons.injEq, and_true] at e1
          subst e1
          refine ⟨fun σ' => ?_, fun j u hu => ?_, by simp [cnt, g3]⟩
          · simp only [List.map_cons, RepL]
            exact ⟨_, _, rfl, Rep.free _ _ hrf r1, g1 σ'⟩
          · cases j with
            | zero => simp at hu; subst hu; exact u1
            | succ j => exact g2 j u (by simpa using hu)
theorem lit_ok (hΓ : TOk P Γ) (hr : Rel n F0 w0 σ S s a w) {d : Nat} (hd : d < n) {t : TypeId} {len : Nat} {ps : Array (Nat × Operand)} {k : AS → Prop} (C : Oracle) (pm : FuncId → Option Pm) (h : wop Γ C pm s (some d) (.buildSlice t len ps) k) :
    ∃ s', k s' ∧ Does P n F0 w0 σ a w (some d) (.buildSlice t len ps) (fun _ => False) s' := by
  simp only [wop] at h
  cases hp : partsOf s ps.toList with
  | none => rw [hp] at h; cases h
  | some qs =>
    rw [hp] at h
    simp only at h
    obtain ⟨vs, p1, p2, p3⟩ := parts_ok hr hp
    unfold mkSlice at h
    cases ho : inOrder 0 len qs with
    | false => rw [ho] at h; simp at h
    | true =>
      cases hb : Nat.ble len 1000 with
      | false => rw [ho, hb] at h; simp at h
      | true =>
        rw [ho, hb] at h
        simp only at h
        obtain ⟨o1, o2⟩ := inOrder_of ho
        have hlen : len = vs.length := by omega
        subst hlen
        have hle : vs.length ≤ 1000 := Nat.le_of_ble_eq_true hb
        have hpl : (ps.map fun (i, x) => (i, a.eval x)).toList = (List.range' 0 vs.length).zip vs := by
          rw [p1, ← o1, ← p2]
          simp
        have hσ : ∀ m : Mb, ∀ id, some d ≠ some id → upd σ d m id = σ id := fun m id hid => by simp [upd]; intro e; exact absurd (by rw [e]) hid
        cases ht : tget Γ t with
        | none => rw [ht] at h; cases h
        | some ti =>
          have hti := hΓ t ti ht
          rw [ht] at h
          cases ti with
          | sl e ek =>
            obtain ⟨hu, _, hek⟩ := hti
            cases ek with
            | i kk =>
              simp only at h
              cases hi : intsOf kk qs with
              | none => rw [hi] at h; cases h
              | some l =>
                rw [hi] at h
                obtain ⟨hue, i, hie, his, hiz, _⟩ := hek
                obtain ⟨hvs, hrg⟩ := ints_vals p1 p3 hi
                have hl : l.length = vs.length := by rw [hvs]; simp
                have hrun := fun w => run_lit (css := vs.map ([·])) hu hie hiz (by omega) (by omega) hpl hle (fun j v hj => ⟨[v], by simp [hj], by
                  rw [hvs, List.getElem?_map] at hj
                  cases hq : l[j]? with
                  | none => rw [hq] at hj; cases hj
                  | some q => rw [hq] at hj; simp at hj; subst hj; rfl, by rw [his]; rfl⟩) (by simp) w
                simp only [flat_singles] at hrun
                refine ⟨_, h, does_run (σ' := upd σ d ⟨some w.heap.size, 1, vs.length, vs.length⟩) (S' := S) (fun o ho => ?_) (lit_rel hr hd (e := e) (cs := vs) (m := ⟨some w.heap.size, 1, vs.length, vs.length⟩) rfl fun σ' => ?_) (fr_alloc w _ _) (hσ _)⟩
                · simp only [execOp, ho, Sem.run_bind, hrun w, Result.andThen_ok, Sem.run_pure, Mb.addr, Option.map_some, Nat.zero_mul]
                · unfold EntR
                  refine ⟨rfl, hl.symm, Nat.le_refl _, (by show vs.length ≤ maxLen; unfold maxLen; omega), hrg, (fun h => by cases h), fun g hg => ?_⟩
                  cases hg
                  exact ⟨_, Blk.new w e vs.toArray, by simp, by show (vs.toArray.toList.take (vs.length * 1)) = _; rw [Nat.mul_one, List.toList_toArray, List.take_length]; exact hvs⟩
            | r T =>
              simp only at h
              obtain ⟨i, z, hie, hiz, his, hzs, _⟩ := hek
              obtain ⟨s1, qs1, S1, g1, g2, g3, g4, g5⟩ := plainL_ok qs (va := []) (vs := vs) hr rfl (by simp) p1 p3 h
              simp only [List.nil_append] at g4 g5
              cases hi : recsOf T qs1 with
              | none => rw [hi] at g1; cases g1
              | some l =>
                rw [hi] at g1
                obtain ⟨css, c1, c2, c3⟩ := recs_vals (by omega) g5 hi
                have hl : l.length = vs.length := by rw [← c2, c1.len]
                have hrun := fun w => run_lit (css := css) hu hie hiz (by rw [his]; cases T <;> simp [esz]) (by rw [his]; cases T <;> simp [esz]) hpl hle (fun j v hj => by rw [his]; exact c3 j v hj) c2 w
                have hkeep : ∀ b o, S1 b → (w.alloc (.cells css.flatten.toArray e)).cell? ⟨b, o, none⟩ = w.cell? ⟨b, o, none⟩ := fun b o hb => by
                  have := (fr_alloc w (.cells css.flatten.toArray e) (fun _ => False)).block b (g2.Sold b hb) id
                  simp [World.cell?, this]
                refine ⟨_, g1, does_run (σ' := upd σ d ⟨some w.heap.size, esz T, vs.length, vs.length⟩) (S' := S1) (fun o ho => ?_) (lit_rel g2 hd (e := e) (cs := css.flatten) (m := ⟨some w.heap.size, esz T, vs.length, vs.length⟩) rfl fun σ' => ?_) (fr_alloc w _ _) (hσ _)⟩
                · simp only [execOp, ho, Sem.run_bind, hrun w, Result.andThen_ok, Sem.run_pure, Mb.addr, Option.map_some, Nat.zero_mul]
                · unfold EntR
                  refine ⟨rfl, hl.symm, Nat.le_refl _, (by show vs.length ≤ maxLen; unfold maxLen; omega), (fun h => by cases h), fun g hg => ?_⟩
                  cases hg
                  refine ⟨_, css, Blk.new w e css.flatten.toArray, by rw [List.size_toArray, flat_len (esz T) css c1.es, c2], c1.keep hkeep fun _ h => h, ?_⟩
                  rw [List.toList_toArray, List.take_of_length_le]
                  rw [flat_len (esz T) css c1.es, c2]
                  exact Nat.le_refl _
            | c =>
              simp only at h
              obtain ⟨i, z, hie, hiz, his, hzs, _⟩ := hek
              obtain ⟨s1, qs1, S1, g1, g2, g3, g4, g5⟩ := plainL_ok qs (va := []) (vs := vs) hr rfl (by simp) p1 p3 h
              simp only [List.nil_append] at g4 g5
              cases hi : cellsOne qs1 with
              | none => rw [hi] at g1; cases g1
              | some l =>
                rw [hi] at g1
                obtain ⟨c1, c2, c3⟩ := cells_vals (by omega) g5 hi
                have hrun := fun w => run_lit (css := vs.map ([·])) hu hie hiz (by omega) (by omega) hpl hle (fun j v hj => ⟨[v], by simp [hj], c2 j v hj, by rw [his]; rfl⟩) (by simp) w
                simp only [flat_singles] at hrun
                have hkeep : ∀ b o, S1 b → (w.alloc (.cells vs.toArray e)).cell? ⟨b, o, none⟩ = w.cell? ⟨b, o, none⟩ := fun b o hb => by
                  have := (fr_alloc w (.cells vs.toArray e) (fun _ => False)).block b (g2.Sold b hb) id
                  simp [World.cell?, this]
                refine ⟨_, g1, does_run (σ' := upd σ d ⟨some w.heap.size, 1, cnt l, cnt l⟩) (S' := S1) (fun o ho => ?_) (lit_rel g2 hd (e := e) (cs := vs) (m := ⟨some w.heap.size, 1, cnt l, cnt l⟩) rfl fun σ' => ?_) (fr_alloc w _ _) (hσ _)⟩
                · simp only [execOp, ho, Sem.run_bind, hrun w, Result.andThen_ok, Sem.run_pure, Mb.addr, Option.map_some, Nat.zero_mul, c3]
                · exact ent_box (RepL.keep _ _ (c1 σ') hkeep fun _ h => h) (by rw [c3]; unfold maxLen; omega) (Blk.new w e vs.toArray)
          | _ => simp at h
theorem made_one (v : Value) (q : Nat) : (madeCells #[v] q).toList = List.replicate q v := by
  unfold madeCells
  apply List.ext_getElem?
  intro j
  simp only [Array.toList_map, Array.toList_range, List.getElem?_map, List.getElem?_replicate]
  by_cases h : j < q
  · simp [h, List.getElem?_range, Nat.mod_one]
  · simp [h]
theorem make_ok (hΓ : TOk P Γ) (hr : Rel n F0 w0 σ S s a w) {d : Nat} (hd : d < n) {t : TypeId} {x y : Operand} {k : AS → Prop} (C : Oracle) (pm : FuncId → Option Pm) (h : wop Γ C pm s (some d) (.makeSlice t x y) k) :
    ∃ s', k s' ∧ Does P n F0 w0 σ a w (some d) (.makeSlice t x y) (fun _ => False) s' := by
  simp only [wop] at h
  cases hx : aval s x with
  | none => rw [hx] at h; simp at h
  | some xa =>
    cases hy : aval s y with
    | none => rw [hx, hy] at h; simp at h
    | some ya =>
      rw [hx, hy] at h
      simp only at h
      unfold mkMake at h
      cases ht : tget Γ t with
      | none => rw [ht] at h; simp at h
      | some ti =>
        have hti := hΓ t ti ht
        rw [ht] at h
        split at h
        · rename_i e kk q c heq
          cases heq
          obtain ⟨hb, h⟩ := chk_some h
          simp only [Bool.and_eq_true, decide_eq_true_eq] at hb
          obtain ⟨⟨b0, b1⟩, b2⟩ := hb
          obtain ⟨hu, _, hue, i, hie, his, hiz, hiby⟩ := hti
          obtain ⟨ex, _⟩ := Rep1.int (aval_ok hr hx)
          obtain ⟨ey, _⟩ := Rep1.int (aval_ok hr hy)
          have hlim : ((lim : Nat) : Int) = 1099511627776 := rfl
          have hby : (i.bytes : Int) * c ≤ 281474976710656 := by
            have h1 : (i.bytes : Int) * c ≤ 128 * c := Int.mul_le_mul_of_nonneg_right (by omega) (by omega)
            omega
          have hrun := fun w => run_make (P := P) w t e i (.int kk 0) hu hie hiz .i64 .i64 q c b0 b1 hby (by omega)
          have hcur : (madeCells (Value.cells (.int kk 0)) (c.toNat * i.size)) = (List.replicate c.toNat (Value.int kk 0)).toArray := by
            apply Array.ext'
            rw [show Value.cells (.int kk 0) = #[.int kk 0] from rfl, made_one, his, Nat.mul_one]
          refine ⟨_, h, does_run (σ' := upd σ d ⟨some w.heap.size, 1, q.toNat, c.toNat⟩) (S' := S) (fun o ho => ?_) (lit_rel hr hd (e := e) (cs := List.replicate c.toNat (Value.int kk 0)) (m := ⟨some w.heap.size, 1, q.toNat, c.toNat⟩) rfl fun σ' => ?_) (fr_alloc w _ _) (fun id hid => by simp [upd]; intro e; exact absurd (by rw [e]) hid)⟩
          · simp only [execOp, ho, Sem.run_bind, ex, ey, hrun w, hcur, Result.andThen_ok, Sem.run_pure, Mb.addr, Option.map_some, Nat.zero_mul]
          · unfold EntR
            refine ⟨rfl, by simp, (by show q.toNat ≤ c.toNat; omega), (by show c.toNat ≤ maxLen; unfold maxLen; omega), fun z hz => ?_, (fun h => by cases h), fun g hg => ?_⟩
            · rw [List.eq_of_mem_replicate hz]; cases kk <;> rfl
            · cases hg
              refine ⟨_, Blk.new w e _, by simp, ?_⟩
              simp only [List.toList_toArray, Nat.mul_one, List.take_replicate, List.map_replicate]
              congr 1
              omega
        · cases h
end
end Go.Proofs.Ytnioiijcmdnhaaa.V
