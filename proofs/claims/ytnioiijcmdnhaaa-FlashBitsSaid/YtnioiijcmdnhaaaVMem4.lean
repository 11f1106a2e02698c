/-
  'append', and the mark that a constant string leaves. Plain theorems; no function of the program is named here.
-/
import Derived.Test.YtnioiijcmdnhaaaVMem3
set_option linter.all false
namespace Go.Proofs.Ytnioiijcmdnhaaa.V
open Go Go.RowKit

section
variable {P : Program} {Γ : TEnv} {n : Nat} {F0 : Fx} {w0 w w' : World} {σ σ' : Sg} {S S' : Nat → Prop} {s s' : AS} {a : Act}

theorem own_of_lini {e : TypeId} {kk : IntKind} {l : List Int} {m : Mb} (h : EntR w S σ (.lini e kk l) m) : w.ownsRow 0 e 1 (.slice (m.addr 0) m.n m.cap) m.n (l.map (Value.int kk)) := by
  simp only [EntR] at h
  obtain ⟨e1, e2, e3, e4, e5, e6, e7⟩ := h
  refine ⟨by simp [e2], ?_⟩
  cases hg : m.g with
  | none =>
    have := e6 hg
    exact .inl ⟨by simp [Mb.addr, hg]; omega, by omega⟩
  | some g =>
    obtain ⟨cur, hb, hc, ht⟩ := e7 g hg
    exact .inr ⟨g, m.cap, cur, by simp [Mb.addr, hg], Nat.zero_le _, hb, e3, e4, hc, ht⟩
theorem lini_of_own {base : Nat} {e : TypeId} {kk : IntKind} {l : List Int} {v : Value} {q : Nat} (h : w.ownsRow base e 1 v q (l.map (Value.int kk))) (hrg : ∀ z ∈ l, inK kk z = true) :
    ∃ m : Mb, v = .slice (m.addr 0) m.n m.cap ∧ m.g = v.ownBlock ∧ ∀ S σ, EntR w S σ (.lini e kk l) m := by
  have hl : l.length = q := by have := h.1; simpa using this
  rcases h.2 with ⟨rfl, h0⟩ | ⟨g, cap, cur, rfl, _, hb, h3, h4, h5, h6⟩
  · refine ⟨⟨none, 1, 0, 0⟩, rfl, rfl, fun S σ => ?_⟩
    unfold EntR
    exact ⟨rfl, by show 0 = l.length; omega, Nat.le_refl _, Nat.zero_le _, hrg, fun _ => rfl, fun g hg => by cases hg⟩
  · refine ⟨⟨some g, 1, q, cap⟩, by simp [Mb.addr], rfl, fun S σ => ?_⟩
    unfold EntR
    refine ⟨rfl, hl.symm, h3, h4, hrg, (fun h => by cases h), fun g' hg' => ?_⟩
    cases hg'
    exact ⟨cur, hb, h5, h6⟩
theorem own_of_linr {e : TypeId} {T : Nat} {l : List Rec} {m : Mb} (h : EntR w S σ (.linr e T l) m) : ∃ css, RecsRep w S T l css ∧ w.ownsRow 0 e (esz T) (.slice (m.addr 0) m.n m.cap) m.n css.flatten := by
  simp only [EntR] at h
  obtain ⟨e1, e2, e3, e4, e6, e7⟩ := h
  cases hg : m.g with
  | none =>
    have := e6 hg
    have h0 : l = [] := List.eq_nil_of_length_eq_zero (by omega)
    subst h0
    have hn0 : m.n = 0 := by omega
    exact ⟨[], trivial, by simp [hn0], .inl ⟨by simp [Mb.addr, hg]; omega, by omega⟩⟩
  | some g =>
    obtain ⟨cur, css, hb, hc, hr, ht⟩ := e7 g hg
    exact ⟨css, hr, by rw [flat_len (esz T) css hr.es, hr.len, e2], .inr ⟨g, m.cap, cur, by simp [Mb.addr, hg], Nat.zero_le _, hb, e3, e4, hc, ht⟩⟩
theorem esz_pos (T : Nat) : 0 < esz T := by cases T <;> simp [esz]
theorem linr_of_own {base : Nat} {e : TypeId} {T : Nat} {l : List Rec} {css : List (List Value)} {v : Value} {q : Nat} (h : w.ownsRow base e (esz T) v q css.flatten) (hr : RecsRep w S T l css) :
    ∃ m : Mb, v = .slice (m.addr 0) m.n m.cap ∧ m.g = v.ownBlock ∧ ∀ σ, EntR w S σ (.linr e T l) m := by
  have hl : l.length = q := by
    have h1 := h.1
    rw [flat_len (esz T) css hr.es, hr.len] at h1
    exact Nat.eq_of_mul_eq_mul_right (esz_pos T) h1
  rcases h.2 with ⟨rfl, h0⟩ | ⟨g, cap, cur, rfl, _, hb, h3, h4, h5, h6⟩
  · refine ⟨⟨none, esz T, 0, 0⟩, rfl, rfl, fun σ => ?_⟩
    unfold EntR
    exact ⟨rfl, by show 0 = l.length; omega, Nat.le_refl _, Nat.zero_le _, fun _ => rfl, fun g hg => by cases hg⟩
  · refine ⟨⟨some g, esz T, q, cap⟩, by simp [Mb.addr], rfl, fun σ => ?_⟩
    unfold EntR
    refine ⟨rfl, hl.symm, h3, h4, (fun h => by cases h), fun g' hg' => ?_⟩
    cases hg'
    exact ⟨cur, css, hb, h5, hr, h6⟩
theorem elem_i {t e : TypeId} {kk : IntKind} (hu : P.underlying t = some (.slice e)) (hek : EKok P e (.i kk)) : ∃ by_, by_ ≤ 128 ∧ Elem P t e 1 by_ := by
  obtain ⟨_, i, h1, h2, h3, h4⟩ := hek
  exact ⟨i.bytes, h4, i, _, hu, h1, h3, h2, rfl, rfl, by omega⟩
theorem elem_r {t e : TypeId} {T : Nat} (hu : P.underlying t = some (.slice e)) (hek : EKok P e (.r T)) : ∃ by_, by_ ≤ 128 ∧ Elem P t e (esz T) by_ := by
  obtain ⟨i, z, h1, h3, h2, h5, h4⟩ := hek
  exact ⟨i.bytes, h4, i, z, hu, h1, h3, h2, rfl, h5, esz_pos T⟩
theorem listR_ok (hr : Rel n F0 w0 σ S s a w) {T : Nat} {x : AV} {l : List Rec} {v : Value} (hx : RepV w S σ x v) (h : listR s T x = some l) :
    ∃ A c css, v = .slice A l.length c ∧ l.length ≤ c ∧ c ≤ maxLen ∧ RecsRep w S T l css ∧ Row w (fun b => S b ∨ ∃ id e m, get s.h id = some e ∧ real e = true ∧ σ id = some m ∧ m.g = some b) A css.flatten := by
  cases x with
  | nil =>
    simp only [listR] at h
    cases h
    simp only [RepV, RepV0, Rep, List.cons.injEq, and_true] at hx
    subst hx
    exact ⟨none, 0, [], rfl, Nat.le_refl _, Nat.zero_le _, trivial, Row.nil⟩
  | rs f T' l' =>
    simp only [listR] at h
    cases hk : Nat.beq T T' with
    | false => rw [hk] at h; cases h
    | true =>
      rw [hk] at h
      cases h
      have := beq_true hk
      subst this
      simp only [RepV, RepV0, Rep, List.cons.injEq, and_true] at hx
      obtain ⟨A, c, css, rfl, h1, h2, _, h3, h4⟩ := hx
      exact ⟨A, c, css, rfl, h1, h2, h3, h4.weaken fun _ h => .inl h⟩
  | ownf id =>
    simp only [listR] at h
    cases he : get s.h id with
    | none => rw [he] at h; cases h
    | some e =>
      rw [he] at h
      cases e with
      | linr t T' l' =>
        simp only at h
        cases hk : Nat.beq T T' with
        | false => rw [hk] at h; cases h
        | true =>
          rw [hk] at h
          cases h
          have := beq_true hk
          subst this
          simp only [RepV, RepV0, Rep, List.cons.injEq, and_true] at hx
          obtain ⟨m, hm, rfl⟩ := hx
          obtain ⟨m', hm', hen⟩ := hr.ents id _ he
          rw [hm] at hm'
          cases hm'
          obtain ⟨css, hc, hrow⟩ := linr_row hen 0 l.length (by simp only [EntR] at hen; omega)
          simp only [List.drop_zero, List.take_length] at hc
          simp only [EntR] at hen
          obtain ⟨e1, e2, e3, e4, _⟩ := hen
          exact ⟨m.addr 0, m.cap, css, by rw [e2], by omega, e4, hc, hrow.weaken fun b hb => .inr ⟨id, _, m, he, rfl, hm, hb⟩⟩
      | _ => simp at h
  | own id off len =>
    simp only [listR] at h
    cases he : get s.h id with
    | none => rw [he] at h; cases h
    | some e =>
      rw [he] at h
      cases e with
      | linr t T' l' =>
        simp only at h
        cases hk : Nat.beq T T' with
        | false => rw [hk] at h; cases h
        | true =>
          rw [hk] at h
          cases h
          have := beq_true hk
          subst this
          simp only [RepV, RepV0, Rep, List.cons.injEq, and_true] at hx
          obtain ⟨m, A, hm, rfl, hol, hA⟩ := hx
          obtain ⟨m', hm', hen⟩ := hr.ents id _ he
          rw [hm] at hm'
          cases hm'
          obtain ⟨css, hc, hrow⟩ := linr_row hen off len hol
          simp only [EntR] at hen
          obtain ⟨e1, e2, e3, e4, _⟩ := hen
          have hlen : ((l'.drop off).take len).length = len := by simp; omega
          refine ⟨A, m.cap - off, css, by rw [hlen], by omega, by omega, hc, fun hne => ?_⟩
          have h0 : 0 < len := by
            rcases Nat.eq_zero_or_pos len with h0 | h0
            · subst h0
              have := hc.len
              simp at this
              subst this
              simp at hne
            · exact h0
          rw [hA h0]
          exact (hrow.weaken fun b hb => .inr ⟨id, _, m, he, rfl, hm, hb⟩) hne
      | _ => simp at h
  | _ => simp [listR] at h
theorem one_ints (kk : IntKind) (l : List Int) : ∀ u ∈ l.map (Value.int kk), u.oneCell' = true := by
  intro u hu
  obtain ⟨z, _, rfl⟩ := List.mem_map.1 hu
  rfl
/-- n zeros behind a row of the call's own. -/
theorem run_append_zeros {t t' ty e : TypeId} {kk kt : IntKind} {i : TypeInfo} (hu : P.underlying t = some (.slice e)) (hut : P.underlying t' = some (.int kt)) (hi : P.info? e = some i) (his : i.size = 1) (hiz : i.zero = some (.int kk 0)) (hib : i.bytes ≤ 128)
    {v : Value} {q : Nat} {xs : List Value} (hown : w.ownsRow 0 e 1 v q xs) (kx : IntKind) {z : Nat} (hlim : (q : Int) + (z : Int) ≤ (lim : Int)) :
    ∃ v' w', (Builtin.append_ #[t, t'] ty #[v, .int kx (z : Int)]).run P w = .ok v' w' ∧ w'.ownsRow 0 e 1 v' (q + z) (xs ++ List.replicate z (.int kk 0)) ∧ w.grownBy w' v.ownBlock ∧ (v'.ownBlock = v.ownBlock ∨ v'.ownBlock = some w.heap.size) := by
  have hl : ((lim : Nat) : Int) = 1099511627776 := rfl
  have hw : IntKind.i64.wrap (z : Int) = (z : Int) := by rw [IntKind.wrap_i64]; omega
  have n1 : ¬ (z : Int) < 0 := by omega
  have hw00 : IntKind.i64.wrap 0 = 0 := rfl
  have hby : (z : Int) * (i.bytes : Int) ≤ 281474976710656 := by
    have h1 : (z : Int) * (i.bytes : Int) ≤ (z : Int) * 128 := Int.mul_le_mul_of_nonneg_left (by omega) (by omega)
    omega
  have n2 : ¬ (281474976710656 < (z : Int) * (i.bytes : Int)) := by omega
  have hz1 : Builtin.zeroCells (Value.cells (.int kk 0)) z = (List.replicate z (Value.int kk 0)).toArray := by
    apply Array.ext'
    have := made_one (.int kk 0) z
    unfold madeCells at this
    simpa [Builtin.zeroCells, Value.cells] using this
  have hone : ∀ u ∈ List.replicate z (Value.int kk 0), u.oneCell' = true := fun u hu => by rw [List.eq_of_mem_replicate hu]; rfl
  have hxl : xs.length = q := by have := hown.1; omega
  -- the growing arm
  have grown : ∀ (old : Nat) (row : Option Nat), old < q + z →
      (w.drew.alloc (.cells (xs.toArray ++ (List.replicate z (Value.int kk 0)).toArray ++ Builtin.zeroCells (Value.cells (.int kk 0)) (grownCap w (q + z) old e - (q + z))) e)).ownsRow 0 e 1
        (.slice (some ⟨w.heap.size, 0, none⟩) (q + z) (grownCap w (q + z) old e)) (q + z) (xs ++ List.replicate z (.int kk 0)) ∧
      w.grownBy (w.drew.alloc (.cells (xs.toArray ++ (List.replicate z (Value.int kk 0)).toArray ++ Builtin.zeroCells (Value.cells (.int kk 0)) (grownCap w (q + z) old e - (q + z))) e)) row := by
    intro old row ho
    have hge := grownCap_ge w (q + z) old e
    have hcm : grownCap w (q + z) old e ≤ maxLen := grownCap_le_maxLen w (q + z) old e (by unfold maxLen; omega)
    refine ⟨⟨by simp [hxl], .inr ⟨w.heap.size, _, _, rfl, Nat.zero_le _, heap_alloc_new w.drew _, hge, hcm, ?_, ?_⟩⟩, ⟨rfl, rfl, rfl, by simp, fun k hk _ => Below.heap_alloc w.drew _ k hk⟩⟩
    · simp only [Array.size_append, List.size_toArray, size_zeroCells, hxl, List.length_replicate]
      simp [Value.cells]
      omega
    · simp only [Array.toList_append, List.toList_toArray, Nat.mul_one]
      have hA : (xs ++ List.replicate z (Value.int kk 0)).length = q + z := by simp [hxl]
      rw [← hA]
      exact List.take_left
  rcases hown.2 with ⟨rfl, rfl⟩ | ⟨g, cap, cur, rfl, hbg, hg, hnc, hcm, hcs, htake⟩
  · have hx0 : xs = [] := List.eq_nil_of_length_eq_zero hxl
    subst hx0
    by_cases hz0 : z = 0
    · subst hz0
      refine ⟨.slice none 0 0, w, ?_, by exact World.ownsRow_nil w 0 e 1, ⟨rfl, rfl, rfl, Nat.le_refl _, fun _ _ _ => rfl⟩, .inl rfl⟩
      simp [Builtin.append_, run_underlying hu, run_underlying hut, sizeOf, typeInfo, hi, his, asInt, asIntOf, hw00]
    · obtain ⟨h1, h2⟩ := grown 0 (Value.ownBlock (.slice none 0 0)) (by omega)
      refine ⟨_, _, ?_, h1, h2, .inr rfl⟩
      have hfit : ¬ (281474976710656 < Builtin.nextslicecap z 0 * i.bytes) := by
        have hb : z * i.bytes ≤ z * 128 := Nat.mul_le_mul_left _ hib
        have := growslice_fits (need := z) (old := 0) (bytes := i.bytes) (by omega) (by omega)
        omega
      have n4 : ¬ (9223372036854775807 < (z : Int)) := by omega
      simp [Builtin.append_, run_underlying hu, run_underlying hut, sizeOf, typeInfo, zeroValue, hi, his, hiz, asInt, asIntOf, hw, n1, n2, hz0, hfit, n4, Question.forced, Builtin.firstCells, newRow, grownCap, hz1]
  · by_cases hroom : q + z ≤ cap
    · refine ⟨.slice (some ⟨g, 0, none⟩) (q + z) cap, w.setRow g (cur.toList.take q ++ List.replicate z (Value.int kk 0) ++ cur.toList.drop (q + z)).toArray, ?_, ?_, ?_, .inl rfl⟩
      · have hst := run_storeCells_at P g q e (List.replicate z (Value.int kk 0)) 0 cur w hg (by simp; omega) hone
        simp only [Nat.add_zero, List.length_replicate] at hst
        by_cases hz0 : z = 0
        · subst hz0
          simp only [List.replicate_zero] at hst
          simp [Builtin.append_, run_underlying hu, run_underlying hut, sizeOf, typeInfo, hi, his, asInt, asIntOf, hw00, hnc, hst, Addr.add_lit]
        · simp [Builtin.append_, run_underlying hu, run_underlying hut, sizeOf, typeInfo, zeroValue, hi, his, hiz, asInt, asIntOf, hw, n1, n2, hz0, hroom, hz1, hst, Addr.add_lit]
      · refine ⟨by simp [hxl], .inr ⟨g, cap, _, rfl, Nat.zero_le _, setRow_heap w g cur _ e _ hg, hroom, hcm, ?_, ?_⟩⟩
        · simp; omega
        · simp only [Nat.mul_one] at htake ⊢
          rw [htake]
          have hA : (xs ++ List.replicate z (Value.int kk 0)).length = q + z := by simp [hxl]
          rw [← hA]
          exact List.take_left
      · exact ⟨rfl, rfl, rfl, by simp, fun k _ hk => setRow_other w g k _ (fun e => hk (by simp [Value.ownBlock, e]))⟩
    · have hz0 : ¬ z = 0 := by omega
      obtain ⟨h1, h2⟩ := grown cap (Value.ownBlock (.slice (some ⟨g, 0, none⟩) q cap)) (by omega)
      refine ⟨_, _, ?_, h1, h2, .inr rfl⟩
      have hfit : ¬ (281474976710656 < Builtin.nextslicecap (q + z) cap * i.bytes) := by
        have hb : (q + z) * i.bytes ≤ (q + z) * 128 := Nat.mul_le_mul_left _ hib
        have := growslice_fits (need := q + z) (old := cap) (bytes := i.bytes) (by omega) (by omega)
        omega
      have n4 : ¬ (9223372036854775807 < ((q : Int) + (z : Int))) := by omega
      have hfo := run_firstCells_some (P := P) w.drew 1 q ⟨g, 0, none⟩ q cap xs (by omega) (by
        have := hown.cells (g := g) rfl
        simpa using this)
      simp [Builtin.append_, run_underlying hu, run_underlying hut, sizeOf, typeInfo, zeroValue, hi, his, hiz, asInt, asIntOf, hw, n1, n2, hz0, hroom, hfit, n4, Question.forced, hfo, newRow, grownCap, hz1]
end
end Go.Proofs.Ytnioiijcmdnhaaa.V
