/-
  'append', and the mark that a constant string leaves. Plain theorems; no function of the program is named here.
  'append', and the mark that a constant string leaves: the operations. Plain theorems; no function of the program is named here.
  The mark that a constant string leaves on its bytes. Plain theorems; no function of the program is named here.
-/
import Derived.Test.YtokeanadhihlfaaMC

set_option linter.all false
namespace Go.Proofs.Ytokeanadhihlfaa.V
open Go Go.RowKit

section
variable {P : Program} {Γ : TEnv} {n : Nat} {F0 : Fx} {w0 w w' : World} {σ σ' : Sg} {S S' : Nat → Prop} {s s' : AS} {a : Act}

theorem own_of_lini {e : TypeId} {kk : IntKind} {l : List Int} {m : Mb} (h : EntR w S σ (.lini e kk l) m) : w.ownsRow 0 e 1 (.slice (m.addr 0) m.n m.cap) m.n (l.map (Value.int kk)) := by
  simp only [EntR] at h
  obtain ⟨e1, e2, e3, e4, e5, e6, e7⟩ := h
  refine ⟨by simp [e2], ?_⟩
  cases hg : m.g with
  | none =>
    have := e6 hg
    exact .inl ⟨by simp [Mb.addr, hg]; omega, by omega⟩
  | some g =>
    obtain ⟨cur, hb, hc, ht⟩ := e7 g hg
    exact .inr ⟨g, m.cap, cur, by simp [Mb.addr, hg], Nat.zero_le _, hb, e3, e4, hc, ht⟩
theorem lini_of_own {base : Nat} {e : TypeId} {kk : IntKind} {l : List Int} {v : Value} {q : Nat} (h : w.ownsRow base e 1 v q (l.map (Value.int kk))) (hrg : ∀ z ∈ l, inK kk z = true) :
    ∃ m : Mb, v = .slice (m.addr 0) m.n m.cap ∧ m.g = v.ownBlock ∧ ∀ S σ, EntR w S σ (.lini e kk l) m := by
  have hl : l.length = q := by have := h.1; simpa using this
  rcases h.2 with ⟨rfl, h0⟩ | ⟨g, cap, cur, rfl, _, hb, h3, h4, h5, h6⟩
  · refine ⟨⟨none, 1, 0, 0⟩, rfl, rfl, fun S σ => ?_⟩
    unfold EntR
    exact ⟨rfl, by show 0 = l.length; omega, Nat.le_refl _, Nat.zero_le _, hrg, fun _ => rfl, fun g hg => by cases hg⟩
  · refine ⟨⟨some g, 1, q, cap⟩, by simp [Mb.addr], rfl, fun S σ => ?_⟩
    unfold EntR
    refine ⟨rfl, hl.symm, h3, h4, hrg, (fun h => by cases h), fun g' hg' => ?_⟩
    cases hg'
    exact ⟨cur, hb, h5, h6⟩
theorem own_of_linr {e : TypeId} {T : Nat} {l : List Rec} {m : Mb} (h : EntR w S σ (.linr e T l) m) : ∃ css, RecsRep w S T l css ∧ w.ownsRow 0 e (esz T) (.slice (m.addr 0) m.n m.cap) m.n css.flatten := by
  simp only [EntR] at h
  obtain ⟨e1, e2, e3, e4, e6, e7⟩ := h
  cases hg : m.g with
  | none =>
    have := e6 hg
    have h0 : l = [] := List.eq_nil_of_length_eq_zero (by omega)
    subst h0
    have hn0 : m.n = 0 := by omega
    exact ⟨[], trivial, by simp [hn0], .inl ⟨by simp [Mb.addr, hg]; omega, by omega⟩⟩
  | some g =>
    obtain ⟨cur, css, hb, hc, hr, ht⟩ := e7 g hg
    exact ⟨css, hr, by rw [flat_len (esz T) css hr.es, hr.len, e2], .inr ⟨g, m.cap, cur, by simp [Mb.addr, hg], Nat.zero_le _, hb, e3, e4, hc, ht⟩⟩
theorem esz_pos (T : Nat) : 0 < esz T := by cases T <;> simp [esz]
theorem linr_of_own {base : Nat} {e : TypeId} {T : Nat} {l : List Rec} {css : List (List Value)} {v : Value} {q : Nat} (h : w.ownsRow base e (esz T) v q css.flatten) (hr : RecsRep w S T l css) :
    ∃ m : Mb, v = .slice (m.addr 0) m.n m.cap ∧ m.g = v.ownBlock ∧ ∀ σ, EntR w S σ (.linr e T l) m := by
  have hl : l.length = q := by
    have h1 := h.1
    rw [flat_len (esz T) css hr.es, hr.len] at h1
    exact Nat.eq_of_mul_eq_mul_right (esz_pos T) h1
  rcases h.2 with ⟨rfl, h0⟩ | ⟨g, cap, cur, rfl, _, hb, h3, h4, h5, h6⟩
  · refine ⟨⟨none, esz T, 0, 0⟩, rfl, rfl, fun σ => ?_⟩
    unfold EntR
    exact ⟨rfl, by show 0 = l.length; omega, Nat.le_refl _, Nat.zero_le _, fun _ => rfl, fun g hg => by cases hg⟩
  · refine ⟨⟨some g, esz T, q, cap⟩, by simp [Mb.addr], rfl, fun σ => ?_⟩
    unfold EntR
    refine ⟨rfl, hl.symm, h3, h4, (fun h => by cases h), fun g' hg' => ?_⟩
    cases hg'
    exact ⟨cur, css, hb, h5, hr, h6⟩
theorem elem_i {t e : TypeId} {kk : IntKind} (hu : P.underlying t = some (.slice e)) (hek : EKok P e (.i kk)) : ∃ by_, by_ ≤ 128 ∧ Elem P t e 1 by_ := by
  obtain ⟨_, i, h1, h2, h3, h4⟩ := hek
  exact ⟨i.bytes, h4, i, _, hu, h1, h3, h2, rfl, rfl, by omega⟩
theorem elem_r {t e : TypeId} {T : Nat} (hu : P.underlying t = some (.slice e)) (hek : EKok P e (.r T)) : ∃ by_, by_ ≤ 128 ∧ Elem P t e (esz T) by_ := by
  obtain ⟨i, z, h1, h3, h2, h5, h4⟩ := hek
  exact ⟨i.bytes, h4, i, z, hu, h1, h3, h2, rfl, h5, esz_pos T⟩
theorem listR_ok (hr : Rel n F0 w0 σ S s a w) {T : Nat} {x : AV} {l : List Rec} {v : Value} (hx : RepV w S σ x v) (h : listR s T x = some l) :
    ∃ A c css, v = .slice A l.length c ∧ l.length ≤ c ∧ c ≤ maxLen ∧ RecsRep w S T l css ∧ Row w (fun b => S b ∨ ∃ id e m, get s.h id = some e ∧ real e = true ∧ σ id = some m ∧ m.g = some b) A css.flatten := by
  cases x with
  | nil =>
    simp only [listR] at h
    cases h
    simp only [RepV, RepV0, Rep, List.cons.injEq, and_true] at hx
    subst hx
    exact ⟨none, 0, [], rfl, Nat.le_refl _, Nat.zero_le _, trivial, Row.nil⟩
  | rs f T' l' =>
    simp only [listR] at h
    cases hk : Nat.beq T T' with
    | false => rw [hk] at h; cases h
    | true =>
      rw [hk] at h
      cases h
      have := beq_true hk
      subst this
      simp only [RepV, RepV0, Rep, List.cons.injEq, and_true] at hx
      obtain ⟨A, c, css, rfl, h1, h2, _, h3, h4⟩ := hx
      exact ⟨A, c, css, rfl, h1, h2, h3, h4.weaken fun _ h => .inl h⟩
  | ownf id =>
    simp only [listR] at h
    cases he : get s.h id with
    | none => rw [he] at h; cases h
    | some e =>
      rw [he] at h
      cases e with
      | linr t T' l' =>
        simp only at h
        cases hk : Nat.beq T T' with
        | false => rw [hk] at h; cases h
        | true =>
          rw [hk] at h
          cases h
          have := beq_true hk
          subst this
          simp only [RepV, RepV0, Rep, List.cons.injEq, and_true] at hx
          obtain ⟨m, hm, rfl⟩ := hx
          obtain ⟨m', hm', hen⟩ := hr.ents id _ he
          rw [hm] at hm'
          cases hm'
          obtain ⟨css, hc, hrow⟩ := linr_row hen 0 l.length (by simp only [EntR] at hen; omega)
          simp only [List.drop_zero, List.take_length] at hc
          simp only [EntR] at hen
          obtain ⟨e1, e2, e3, e4, _⟩ := hen
          exact ⟨m.addr 0, m.cap, css, by rw [e2], by omega, e4, hc, hrow.weaken fun b hb => .inr ⟨id, _, m, he, rfl, hm, hb⟩⟩
      | _ => simp at h
  | own id off len =>
    simp only [listR] at h
    cases he : get s.h id with
    | none => rw [he] at h; cases h
    | some e =>
      rw [he] at h
      cases e with
      | linr t T' l' =>
        simp only at h
        cases hk : Nat.beq T T' with
        | false => rw [hk] at h; cases h
        | true =>
          rw [hk] at h
          cases h
          have := beq_true hk
          subst this
          simp only [RepV, RepV0, Rep, List.cons.injEq, and_true] at hx
          obtain ⟨m, A, hm, rfl, hol, hA⟩ := hx
          obtain ⟨m', hm', hen⟩ := hr.ents id _ he
          rw [hm] at hm'
          cases hm'
          obtain ⟨css, hc, hrow⟩ := linr_row hen off len hol
          simp only [EntR] at hen
          obtain ⟨e1, e2, e3, e4, _⟩ := hen
          have hlen : ((l'.drop off).take len).length = len := by simp; omega
          refine ⟨A, m.cap - off, css, by rw [hlen], by omega, by omega, hc, fun hne => ?_⟩
          have h0 : 0 < len := by
            rcases Nat.eq_zero_or_pos len with h0 | h0
            · subst h0
              have := hc.len
              simp at this
              subst this
              simp at hne
            · exact h0
          rw [hA h0]
          exact (hrow.weaken fun b hb => .inr ⟨id, _, m, he, rfl, hm, hb⟩) hne
      | _ => simp at h
  | _ => simp [listR] at h
theorem one_ints (kk : IntKind) (l : List Int) : ∀ u ∈ l.map (Value.int kk), u.oneCell' = true := by
  intro u hu
  obtain ⟨z, _, rfl⟩ := List.mem_map.1 hu
  rfl
/-- n zeros behind a row of the call's own. -/
theorem run_append_zeros {t t' ty e : TypeId} {kk kt : IntKind} {i : TypeInfo} (hu : P.underlying t = some (.slice e)) (hut : P.underlying t' = some (.int kt)) (hi : P.info? e = some i) (his : i.size = 1) (hiz : i.zero = some (.int kk 0)) (hib : i.bytes ≤ 128)
    {v : Value} {q : Nat} {xs : List Value} (hown : w.ownsRow 0 e 1 v q xs) (kx : IntKind) {z : Nat} (hlim : (q : Int) + (z : Int) ≤ (lim : Int)) :
    ∃ v' w', (Builtin.append_ #[t, t'] ty #[v, .int kx (z : Int)]).run P w = .ok v' w' ∧ w'.ownsRow 0 e 1 v' (q + z) (xs ++ List.replicate z (.int kk 0)) ∧ w.grownBy w' v.ownBlock ∧ (v'.ownBlock = v.ownBlock ∨ v'.ownBlock = some w.heap.size) := by
  have hl : ((lim : Nat) : Int) = 1099511627776 := rfl
  have hw : IntKind.i64.wrap (z : Int) = (z : Int) := by rw [IntKind.wrap_i64]; omega
  have n1 : ¬ (z : Int) < 0 := by omega
  have hw00 : IntKind.i64.wrap 0 = 0 := rfl
  have hby : (z : Int) * (i.bytes : Int) ≤ 281474976710656 := by
    have h1 : (z : Int) * (i.bytes : Int) ≤ (z : Int) * 128 := Int.mul_le_mul_of_nonneg_left (by omega) (by omega)
    omega
  have n2 : ¬ (281474976710656 < (z : Int) * (i.bytes : Int)) := by omega
  have hz1 : Builtin.zeroCells (Value.cells (.int kk 0)) z = (List.replicate z (Value.int kk 0)).toArray := by
    apply Array.ext'
    have := made_one (.int kk 0) z
    unfold madeCells at this
    simpa [Builtin.zeroCells, Value.cells] using this
  have hone : ∀ u ∈ List.replicate z (Value.int kk 0), u.oneCell' = true := fun u hu => by rw [List.eq_of_mem_replicate hu]; rfl
  have hxl : xs.length = q := by have := hown.1; omega
  -- the growing arm
  have grown : ∀ (old : Nat) (row : Option Nat), old < q + z →
      (w.drew.alloc (.cells (xs.toArray ++ (List.replicate z (Value.int kk 0)).toArray ++ Builtin.zeroCells (Value.cells (.int kk 0)) (grownCap w (q + z) old e - (q + z))) e)).ownsRow 0 e 1
        (.slice (some ⟨w.heap.size, 0, none⟩) (q + z) (grownCap w (q + z) old e)) (q + z) (xs ++ List.replicate z (.int kk 0)) ∧
      w.grownBy (w.drew.alloc (.cells (xs.toArray ++ (List.replicate z (Value.int kk 0)).toArray ++ Builtin.zeroCells (Value.cells (.int kk 0)) (grownCap w (q + z) old e - (q + z))) e)) row := by
    intro old row ho
    have hge := grownCap_ge w (q + z) old e
    have hcm : grownCap w (q + z) old e ≤ maxLen := grownCap_le_maxLen w (q + z) old e (by unfold maxLen; omega)
    refine ⟨⟨by simp [hxl], .inr ⟨w.heap.size, _, _, rfl, Nat.zero_le _, heap_alloc_new w.drew _, hge, hcm, ?_, ?_⟩⟩, ⟨rfl, rfl, rfl, by simp, fun k hk _ => Below.heap_alloc w.drew _ k hk⟩⟩
    · simp only [Array.size_append, List.size_toArray, size_zeroCells, hxl, List.length_replicate]
      simp [Value.cells]
      omega
    · simp only [Array.toList_append, List.toList_toArray, Nat.mul_one]
      have hA : (xs ++ List.replicate z (Value.int kk 0)).length = q + z := by simp [hxl]
      rw [← hA]
      exact List.take_left
  rcases hown.2 with ⟨rfl, rfl⟩ | ⟨g, cap, cur, rfl, hbg, hg, hnc, hcm, hcs, htake⟩
  · have hx0 : xs = [] := List.eq_nil_of_length_eq_zero hxl
    subst hx0
    by_cases hz0 : z = 0
    · subst hz0
      refine ⟨.slice none 0 0, w, ?_, by exact World.ownsRow_nil w 0 e 1, ⟨rfl, rfl, rfl, Nat.le_refl _, fun _ _ _ => rfl⟩, .inl rfl⟩
      simp [Builtin.append_, run_underlying hu, run_underlying hut, sizeOf, typeInfo, hi, his, asInt, asIntOf, hw00]
    · obtain ⟨h1, h2⟩ := grown 0 (Value.ownBlock (.slice none 0 0)) (by omega)
      refine ⟨_, _, ?_, h1, h2, .inr rfl⟩
      have hfit : ¬ (281474976710656 < Builtin.nextslicecap z 0 * i.bytes) := by
        have hb : z * i.bytes ≤ z * 128 := Nat.mul_le_mul_left _ hib
        have := growslice_fits (need := z) (old := 0) (bytes := i.bytes) (by omega) (by omega)
        omega
      have n4 : ¬ (9223372036854775807 < (z : Int)) := by omega
      simp [Builtin.append_, run_underlying hu, run_underlying hut, sizeOf, typeInfo, zeroValue, hi, his, hiz, asInt, asIntOf, hw, n1, n2, hz0, hfit, n4, Question.forced, Builtin.firstCells, newRow, grownCap, hz1]
  · by_cases hroom : q + z ≤ cap
    · refine ⟨.slice (some ⟨g, 0, none⟩) (q + z) cap, w.setRow g (cur.toList.take q ++ List.replicate z (Value.int kk 0) ++ cur.toList.drop (q + z)).toArray, ?_, ?_, ?_, .inl rfl⟩
      · have hst := run_storeCells_at P g q e (List.replicate z (Value.int kk 0)) 0 cur w hg (by simp; omega) hone
        simp only [Nat.add_zero, List.length_replicate] at hst
        by_cases hz0 : z = 0
        · subst hz0
          simp only [List.replicate_zero] at hst
          simp [Builtin.append_, run_underlying hu, run_underlying hut, sizeOf, typeInfo, hi, his, asInt, asIntOf, hw00, hnc, hst, Addr.add_lit]
        · simp [Builtin.append_, run_underlying hu, run_underlying hut, sizeOf, typeInfo, zeroValue, hi, his, hiz, asInt, asIntOf, hw, n1, n2, hz0, hroom, hz1, hst, Addr.add_lit]
      · refine ⟨by simp [hxl], .inr ⟨g, cap, _, rfl, Nat.zero_le _, setRow_heap w g cur _ e _ hg, hroom, hcm, ?_, ?_⟩⟩
        · simp; omega
        · simp only [Nat.mul_one] at htake ⊢
          rw [htake]
          have hA : (xs ++ List.replicate z (Value.int kk 0)).length = q + z := by simp [hxl]
          rw [← hA]
          exact List.take_left
      · exact ⟨rfl, rfl, rfl, by simp, fun k _ hk => setRow_other w g k _ (fun e => hk (by simp [Value.ownBlock, e]))⟩
    · have hz0 : ¬ z = 0 := by omega
      obtain ⟨h1, h2⟩ := grown cap (Value.ownBlock (.slice (some ⟨g, 0, none⟩) q cap)) (by omega)
      refine ⟨_, _, ?_, h1, h2, .inr rfl⟩
      have hfit : ¬ (281474976710656 < Builtin.nextslicecap (q + z) cap * i.bytes) := by
        have hb : (q + z) * i.bytes ≤ (q + z) * 128 := Nat.mul_le_mul_left _ hib
        have := growslice_fits (need := q + z) (old := cap) (bytes := i.bytes) (by omega) (by omega)
        omega
      have n4 : ¬ (9223372036854775807 < ((q : Int) + (z : Int))) := by omega
      have hfo := run_firstCells_some (P := P) w.drew 1 q ⟨g, 0, none⟩ q cap xs (by omega) (by
        have := hown.cells (g := g) rfl
        simpa using this)
      simp [Builtin.append_, run_underlying hu, run_underlying hut, sizeOf, typeInfo, zeroValue, hi, his, hiz, asInt, asIntOf, hw, n1, n2, hz0, hroom, hfit, n4, Question.forced, hfo, newRow, grownCap, hz1]
end
end Go.Proofs.Ytokeanadhihlfaa.V


set_option linter.all false
namespace Go.Proofs.Ytokeanadhihlfaa.V
open Go Go.RowKit

section
variable {P : Program} {Γ : TEnv} {n : Nat} {F0 : Fx} {w0 w w' : World} {σ σ' : Sg} {S S' : Nat → Prop} {s s' : AS} {a : Act}

theorem run_appendOp {o : Oper} {b x : Operand} {t t' : TypeId} {v : Value} (ho : o.op = .call { callee := .builtin .append, args := #[b, x], argTypes := #[t, t'] }) (h : (Builtin.append_ #[t, t'] o.type #[a.eval b, a.eval x]).run P w = .ok v w') :
    (execOp a.eval o).run P w = .ok (.value v) w' := by
  simp [execOp, ho, resolve, invoke, builtin, h]
/-- A new row. -/
theorem app_fresh (hr : Rel n F0 w0 σ S s a w) {d : Nat} (hd : d < n) {e : AV} {v' : Value} {m : Mb} (hv : v' = .slice (m.addr 0) m.n m.cap) (hg : ∀ g, m.g = some g → w.heap.size ≤ g) (hent : ∀ σ, EntR w' S σ e m) (hfr : Fr (fun _ => False) w w') :
    Rel n F0 w0 (upd σ d m) S (s.new d e (.ownf d)) (a.put (some d) v') w' := by
  subst hv
  exact (hr.fresh hfr hd (hent _) hg).tput hd rep_ownf
theorem app_own (hr : Rel n F0 w0 σ S s a w) {id : Nat} {e0 : AV} {m0 : Mb} (he0 : get s.h id = some e0) (hm0 : σ id = some m0) {d : Nat} (hd : d < n) {e : AV} {v' : Value} {m : Mb} (hv : v' = .slice (m.addr 0) m.n m.cap) (hg : ∀ g, m.g = some g → m0.g = some g ∨ w.heap.size ≤ g)
    (hent : ∀ σ, EntR w' S σ e m) (hfr : Fr (fun b => m0.g = some b) w w') : Rel n F0 w0 (upd σ d m) S ((s.kill id).new d e (.ownf d)) (a.put (some d) v') w' := by
  subst hv
  exact (hr.grow he0 hm0 hfr hd (hent _) hg).tput hd rep_ownf
theorem ownBlock_addr (m : Mb) : (Value.slice (m.addr 0) m.n m.cap).ownBlock = m.g := by
  cases hg : m.g <;> simp [Mb.addr, hg, Value.ownBlock]
theorem lim_bytes {q by_ : Nat} (h : q ≤ lim) (hb : by_ ≤ 128) : q * by_ ≤ 140737488355328 := by
  have h1 : q * by_ ≤ q * 128 := Nat.mul_le_mul_left _ hb
  have : lim = 1099511627776 := rfl
  omega
theorem lim_max {q : Nat} (h : q ≤ lim) : q ≤ maxLen := by
  have : lim = 1099511627776 := rfl
  unfold maxLen
  omega
theorem appI_ok (hr : Rel n F0 w0 σ S s a w) {d : Nat} (hd : d < n) {t e : TypeId} {kk : IntKind} (hu : P.underlying t = some (.slice e)) (hek : EKok P e (.i kk)) {bo xo : Operand} {b x : AV} (hb : aval s bo = some b) (hx : aval s xo = some x) {xs : List Int} (hl : listI s kk x = some xs)
    {k : AS → Prop} (h : appI s d e kk xs b k) :
    ∃ s', k s' ∧ Does P n F0 w0 σ a w (some d) (.call { callee := .builtin .append, args := #[bo, xo], argTypes := #[t, t] }) (fun q => ∃ id ∈ modsApp b, OfId σ id q) s' := by
  have hrb := aval_ok hr hb
  have hrx := aval_ok hr hx
  have hσ : ∀ m : Mb, ∀ id, some d ≠ some id → upd σ d m id = σ id := fun m id hid => by simp [upd]; intro e; exact absurd (by rw [e]) hid
  obtain ⟨A, c, hxe, x1, x2, x3, x4⟩ := listI_ok hr hrx hl
  obtain ⟨by_, hby, hel⟩ := elem_i hu hek
  unfold appI at h
  cases b with
  | nil =>
    simp only at h
    obtain ⟨hc, h⟩ := chk_some h
    have hc' : xs.length ≤ lim := by simpa using hc
    simp only [RepV, RepV0, Rep, List.cons.injEq, and_true] at hrb
    have hrow := fun ty => run_append_row (P := P) (ty := ty) (w := w) hel 0 (World.ownsRow_nil w 0 e 1) (m := xs.length) (c := c) x4 (by simp) (one_ints kk xs) (by rw [Nat.zero_add]; exact lim_max hc') (by rw [Nat.zero_add]; exact lim_bytes hc' hby) (Nat.zero_le _)
    obtain ⟨v', w', r1, r2, r3, r4⟩ := hrow t
    simp only [Nat.zero_add, List.nil_append] at r2
    obtain ⟨m, m1, m2, m3⟩ := lini_of_own r2 x3
    refine ⟨_, h, (does_run (M := fun _ => False) (σ' := upd σ d m) (S' := S) (fun o ho => run_appendOp ho ?_) (app_fresh hr hd m1 (fun g hg => ?_) (m3 S) ((fr_grown r3).weak fun b hb => by cases hb)) ((fr_grown r3).weak fun b hb => by cases hb) (hσ m)).mono fun _ h => h.elim⟩
    · rw [hrb, hxe]
      exact r1
    · rcases r4 with r4 | r4
      · rw [m2, r4] at hg; cases hg
      · rw [m2, r4] at hg; cases hg; exact Nat.le_refl _
  | ints f kk' l =>
    cases f with
    | false => simp at h
    | true =>
      simp only at h
      cases hk : kbeq kk kk' with
      | false => rw [hk] at h; cases h
      | true =>
        have := kbeq_true hk
        subst this
        rw [hk] at h
        obtain ⟨hc, h⟩ := chk_some h
        simp only [Bool.and_eq_true, decide_eq_true_eq] at hc
        obtain ⟨c0, c1⟩ := hc
        simp only [RepV, RepV0, Rep, List.cons.injEq, and_true] at hrb
        obtain ⟨B, cb, hbe, hsi, hfull⟩ := hrb
        have hcb : cb = l.length := by simpa using hfull
        subst hcb
        obtain ⟨xb, xoff, hA, _, xcell⟩ := x4 (by simp; intro e; rw [e] at c0; simp at c0)
        obtain ⟨i, z, e1, e2, e3, e4, e5, e6, e7⟩ := hel
        -- what the growing arm leaves
        have fin : ∀ (B' : Addr) (hB : B = some B') , ∃ s', k s' ∧ Does P n F0 w0 σ a w (some d) (.call { callee := .builtin .append, args := #[bo, xo], argTypes := #[t, t] }) (fun q => ∃ id ∈ modsApp (.ints true kk l), OfId σ id q) s' := by
          intro B' hB
          subst hB
          have hold : ∀ j v, (l.map (Value.int kk))[j]? = some v → w.cell? (B'.add j) = some v := by
            intro j v hv
            obtain ⟨b, off, h1, _, h2⟩ := row_at hsi.row hv
            simp only [Option.some.injEq] at h1
            subst h1
            rw [Addr.add_lit]
            exact h2
          have hnew : ∀ j v, (xs.map (Value.int kk))[j]? = some v → w.cell? ((⟨xb, xoff, none⟩ : Addr).add j) = some v := by
            intro j v hv
            rw [Addr.add_lit]
            exact xcell j v hv
          have hrun := fun ty => run_append_grow (P := P) w t ty e i z e1 e2 e3 B' l.length l.length (l.map (Value.int kk)) (by simp [e4]) hold ⟨xb, xoff, none⟩ xs.length c (xs.map (Value.int kk)) (by simp [e4]) hnew (by omega)
            (by have := lim_max c1; unfold maxLen at this; omega) (growslice_fits (by omega) (by rw [e5]; exact lim_bytes c1 hby))
          have hge := grownCap_ge w (l.length + xs.length) l.length e
          have hcm : grownCap w (l.length + xs.length) l.length e ≤ maxLen := grownCap_le_maxLen w _ _ e (lim_max c1)
          refine ⟨_, h, (does_run (M := fun _ => False) (σ' := upd σ d ⟨some w.heap.size, 1, l.length + xs.length, grownCap w (l.length + xs.length) l.length e⟩) (S' := S) (fun o ho => run_appendOp ho (by rw [hbe, hxe, hA]; exact hrun _))
            (app_fresh hr hd (m := ⟨some w.heap.size, 1, l.length + xs.length, grownCap w (l.length + xs.length) l.length e⟩) (by simp [Mb.addr]) (fun g hg => by cases hg; exact Nat.le_refl _) (fun σ' => ?_) ?_) ?_ (hσ _)).mono fun _ h => h.elim⟩
          · unfold EntR
            refine ⟨rfl, by simp, hge, hcm, fun q hq => ?_, (fun h => by cases h), fun g hg => ?_⟩
            · rcases List.mem_append.1 hq with hq | hq
              · exact hsi.rng q hq
              · exact x3 q hq
            · cases hg
              refine ⟨_, heap_alloc_new w.drew _, ?_, ?_⟩
              · simp only [Array.size_append, List.size_toArray, size_zeroCells, e6, List.length_map]
                omega
              · simp only [Array.toList_append, List.toList_toArray, Nat.mul_one, List.map_append]
                have hl2 : (l.map (Value.int kk) ++ xs.map (Value.int kk)).length = l.length + xs.length := by simp
                rw [← hl2]
                exact List.take_left
          · exact ⟨rfl, rfl, rfl, by simp, fun q hq _ => Below.heap_alloc w.drew _ q hq⟩
          · exact ⟨rfl, rfl, rfl, by simp, fun q hq _ => Below.heap_alloc w.drew _ q hq⟩
        cases hB : B with
        | some B' => exact fin B' hB
        | none =>
          -- a nil slice
          have hl0 : l = [] := by
            rcases Classical.em (l = []) with h0 | h0
            · exact h0
            · obtain ⟨b, off, h1, _⟩ := hsi.row (by simpa using h0)
              rw [hB] at h1
              cases h1
          subst hl0
          rw [hB] at hbe
          have hrow := fun ty => run_append_row (P := P) (ty := ty) (w := w) ⟨i, z, e1, e2, e3, e4, e5, e6, e7⟩ 0 (World.ownsRow_nil w 0 e 1) (m := xs.length) (c := c) x4 (by simp) (one_ints kk xs) (by simp at c1; rw [Nat.zero_add]; exact lim_max c1) (by simp at c1; rw [Nat.zero_add]; exact lim_bytes c1 hby) (Nat.zero_le _)
          obtain ⟨v', w', r1, r2, r3, r4⟩ := hrow t
          simp only [Nat.zero_add, List.nil_append] at r2
          obtain ⟨m, m1, m2, m3⟩ := lini_of_own r2 x3
          refine ⟨_, h, (does_run (M := fun _ => False) (σ' := upd σ d m) (S' := S) (fun o ho => run_appendOp ho ?_) (app_fresh hr hd m1 (fun g hg => ?_) (fun σ' => by simpa using m3 S σ') ((fr_grown r3).weak fun b hb => by cases hb)) ((fr_grown r3).weak fun b hb => by cases hb) (hσ m)).mono fun _ h => h.elim⟩
          · rw [hbe, hxe]
            exact r1
          · rcases r4 with r4 | r4
            · rw [m2, r4] at hg; cases hg
            · rw [m2, r4] at hg; cases hg; exact Nat.le_refl _
  | ownf id =>
    simp only at h
    cases he : get s.h id with
    | none => rw [he] at h; cases h
    | some en =>
      rw [he] at h
      obtain ⟨m0, hm0, hen⟩ := hr.ents id en he
      cases en with
      | lini e' kk' l =>
        simp only at h
        cases he1 : Nat.beq e e' with
        | false => rw [he1] at h; simp at h
        | true =>
          cases hk : kbeq kk kk' with
          | false => rw [he1, hk] at h; simp at h
          | true =>
            have := kbeq_true hk
            subst this
            have := beq_true he1
            subst this
            rw [he1, hk] at h
            obtain ⟨hc, h⟩ := chk_some h
            have hc' : l.length + xs.length ≤ lim := by simpa using hc
            simp only [RepV, RepV0, Rep, List.cons.injEq, and_true] at hrb
            obtain ⟨m0', hm0', hbe⟩ := hrb
            rw [hm0] at hm0'
            cases hm0'
            have hown := own_of_lini hen
            have hn0 : m0.n = l.length := by simp only [EntR] at hen; exact hen.2.1
            have hrg : ∀ z ∈ l ++ xs, inK kk z = true := fun z hz => by
              simp only [EntR] at hen
              rcases List.mem_append.1 hz with hz | hz
              · exact hen.2.2.2.2.1 z hz
              · exact x3 z hz
            obtain ⟨v', w', r1, r2, r3, r4⟩ := run_append_row (P := P) (ty := t) (w := w) hel 0 hown (m := xs.length) (c := c) x4 (by simp) (one_ints kk xs) (by rw [hn0]; exact lim_max hc') (by rw [hn0]; exact lim_bytes hc' hby) (Nat.zero_le _)
            rw [← List.map_append] at r2
            rw [ownBlock_addr] at r3 r4
            obtain ⟨m, m1, m2, m3⟩ := lini_of_own r2 hrg
            refine ⟨_, h, (does_run (σ' := upd σ d m) (S' := S) (fun o ho => run_appendOp ho ?_) (app_own hr he hm0 hd m1 (fun g hg => ?_) (m3 S) (fr_grown r3)) (fr_grown r3) (hσ m)).mono fun q hq => ⟨id, by simp [modsApp], m0, hm0, hq⟩⟩
            · rw [hbe, hxe]
              exact r1
            · rw [m2] at hg
              rcases r4 with r4 | r4
              · rw [r4] at hg; exact .inl hg
              · rw [r4] at hg; cases hg; exact .inr (Nat.le_refl _)
      | _ => simp at h
  | _ => simp at h
theorem appZ_ok (hr : Rel n F0 w0 σ S s a w) {d : Nat} (hd : d < n) {t t' e : TypeId} {kk kt : IntKind} (hu : P.underlying t = some (.slice e)) (hek : EKok P e (.i kk)) (hut : P.underlying t' = some (.int kt)) {bo xo : Operand} {b : AV} {q : Int} (hb : aval s bo = some b) (hx : aval s xo = some (.int .i64 q))
    {k : AS → Prop} (h : appZ s d e kk q b k) :
    ∃ s', k s' ∧ Does P n F0 w0 σ a w (some d) (.call { callee := .builtin .append, args := #[bo, xo], argTypes := #[t, t'] }) (fun q => ∃ id ∈ modsApp b, OfId σ id q) s' := by
  have hrb := aval_ok hr hb
  have hrx := aval_ok hr hx
  have hσ : ∀ m : Mb, ∀ id, some d ≠ some id → upd σ d m id = σ id := fun m id hid => by simp [upd]; intro e; exact absurd (by rw [e]) hid
  unfold appZ at h
  obtain ⟨hxe, _⟩ := Rep1.int hrx
  cases b with
  | ownf id =>
    simp only at h
    cases he : get s.h id with
    | none => rw [he] at h; cases h
    | some en =>
      rw [he] at h
      obtain ⟨m0, hm0, hen⟩ := hr.ents id en he
      cases en with
      | lini e' kk' l =>
        simp only at h
        cases he1 : Nat.beq e e' with
        | false => rw [he1] at h; simp at h
        | true =>
          cases hk : kbeq kk kk' with
          | false => rw [he1, hk] at h; simp at h
          | true =>
            have := kbeq_true hk
            subst this
            have := beq_true he1
            subst this
            rw [he1, hk] at h
            obtain ⟨hc, h⟩ := chk_some h
            simp only [Bool.and_eq_true, decide_eq_true_eq] at hc
            obtain ⟨c0, c1⟩ := hc
            simp only [RepV, RepV0, Rep, List.cons.injEq, and_true] at hrb
            obtain ⟨m0', hm0', hbe⟩ := hrb
            rw [hm0] at hm0'
            cases hm0'
            have hown := own_of_lini hen
            have hn0 : m0.n = l.length := by simp only [EntR] at hen; exact hen.2.1
            obtain ⟨hue, i, hie, his, hiz, hib⟩ := hek
            obtain ⟨q', rfl⟩ : ∃ q' : Nat, q = (q' : Int) := ⟨q.toNat, by omega⟩
            have hrg : ∀ z ∈ l ++ List.replicate q' 0, inK kk z = true := fun z hz => by
              simp only [EntR] at hen
              rcases List.mem_append.1 hz with hz | hz
              · exact hen.2.2.2.2.1 z hz
              · rw [List.eq_of_mem_replicate hz]; cases kk <;> rfl
            obtain ⟨v', w', r1, r2, r3, r4⟩ := run_append_zeros (ty := 0) hu hut hie his hiz hib hown .i64 (z := q') (by rw [hn0]; exact c1)
            rw [← List.map_replicate, ← List.map_append] at r2
            rw [ownBlock_addr] at r3 r4
            obtain ⟨m, m1, m2, m3⟩ := lini_of_own r2 hrg
            refine ⟨_, h, (does_run (σ' := upd σ d m) (S' := S) (fun o ho => run_appendOp ho ?_) (app_own hr he hm0 hd m1 (fun g hg => ?_) (by simpa using m3 S) (fr_grown r3)) (fr_grown r3) (hσ m)).mono fun q hq => ⟨id, by simp [modsApp], m0, hm0, hq⟩⟩
            · rw [hbe, hxe]
              exact r1
            · rw [m2] at hg
              rcases r4 with r4 | r4
              · rw [r4] at hg; exact .inl hg
              · rw [r4] at hg; cases hg; exact .inr (Nat.le_refl _)
      | _ => simp at h
  | _ => simp at h
theorem appR_ok (hr : Rel n F0 w0 σ S s a w) {d : Nat} (hd : d < n) {t e : TypeId} {T : Nat} (hu : P.underlying t = some (.slice e)) (hek : EKok P e (.r T)) {bo xo : Operand} {b x : AV} (hb : aval s bo = some b) (hx : aval s xo = some x) {xs : List Rec} (hl : listR s T x = some xs)
    {k : AS → Prop} (h : appR s d e T xs b k) :
    ∃ s', k s' ∧ Does P n F0 w0 σ a w (some d) (.call { callee := .builtin .append, args := #[bo, xo], argTypes := #[t, t] }) (fun q => ∃ id ∈ modsApp b, OfId σ id q) s' := by
  have hrb := aval_ok hr hb
  have hrx := aval_ok hr hx
  have hσ : ∀ m : Mb, ∀ id, some d ≠ some id → upd σ d m id = σ id := fun m id hid => by simp [upd]; intro e; exact absurd (by rw [e]) hid
  unfold appR at h
  obtain ⟨A, c, css, hxe, x1, x2, x3, x4⟩ := listR_ok hr hrx hl
  obtain ⟨by_, hby, hel⟩ := elem_r hu hek
  have hxl : css.flatten.length = xs.length * esz T := by rw [flat_len (esz T) css x3.es, x3.len]
  cases b with
  | nil =>
    simp only at h
    obtain ⟨hc, h⟩ := chk_some h
    have hc' : xs.length ≤ lim := by simpa using hc
    simp only [RepV, RepV0, Rep, List.cons.injEq, and_true] at hrb
    obtain ⟨v', w', r1, r2, r3, r4⟩ := run_append_row (P := P) (ty := t) (w := w) hel 0 (World.ownsRow_nil w 0 e (esz T)) (c := c) x4 hxl x3.one (by rw [Nat.zero_add]; exact lim_max hc') (by rw [Nat.zero_add]; exact lim_bytes hc' hby) (Nat.zero_le _)
    simp only [Nat.zero_add, List.nil_append] at r2
    have hfr0 : Fr (fun _ => False) w w' := (fr_grown r3).weak fun b hb => by cases hb
    have hkeep : ∀ b o, S b → w'.cell? ⟨b, o, none⟩ = w.cell? ⟨b, o, none⟩ := fun b o hb => by
      have := hfr0.block b (hr.Sold b hb) id
      simp [World.cell?, this]
    obtain ⟨m, m1, m2, m3⟩ := linr_of_own r2 (x3.keep (S' := S) hkeep fun _ h => h)
    refine ⟨_, h, (does_run (M := fun _ => False) (σ' := upd σ d m) (S' := S) (fun o ho => run_appendOp ho ?_) (app_fresh hr hd m1 (fun g hg => ?_) m3 hfr0) hfr0 (hσ m)).mono fun _ h => h.elim⟩
    · rw [hrb, hxe]
      exact r1
    · rcases r4 with r4 | r4
      · rw [m2, r4] at hg; cases hg
      · rw [m2, r4] at hg; cases hg; exact Nat.le_refl _
  | ownf id =>
    simp only at h
    cases he : get s.h id with
    | none => rw [he] at h; cases h
    | some en =>
      rw [he] at h
      obtain ⟨m0, hm0, hen⟩ := hr.ents id en he
      cases en with
      | linr e' T' l =>
        simp only at h
        cases he1 : Nat.beq e e' with
        | false => rw [he1] at h; simp at h
        | true =>
          cases hk : Nat.beq T T' with
          | false => rw [he1, hk] at h; simp at h
          | true =>
            have := beq_true hk
            subst this
            have := beq_true he1
            subst this
            rw [he1, hk] at h
            obtain ⟨hc, h⟩ := chk_some h
            have hc' : l.length + xs.length ≤ lim := by simpa using hc
            simp only [RepV, RepV0, Rep, List.cons.injEq, and_true] at hrb
            obtain ⟨m0', hm0', hbe⟩ := hrb
            rw [hm0] at hm0'
            cases hm0'
            have hn0 : m0.n = l.length := by simp only [EntR] at hen; exact hen.2.1
            obtain ⟨css0, h0, hown⟩ := own_of_linr hen
            obtain ⟨v', w', r1, r2, r3, r4⟩ := run_append_row (P := P) (ty := t) (w := w) hel 0 hown (c := c) x4 hxl x3.one (by rw [hn0]; exact lim_max hc') (by rw [hn0]; exact lim_bytes hc' hby) (Nat.zero_le _)
            rw [← List.flatten_append] at r2
            rw [ownBlock_addr] at r3 r4
            have hkeep : ∀ b o, S b → w'.cell? ⟨b, o, none⟩ = w.cell? ⟨b, o, none⟩ := fun b o hb => by
              have := (fr_grown r3).block b (hr.Sold b hb) (fun e => hr.apart id _ m0 b he hm0 e hb)
              simp [World.cell?, this]
            obtain ⟨m, m1, m2, m3⟩ := linr_of_own r2 ((h0.append x3).keep (S' := S) hkeep fun _ h => h)
            refine ⟨_, h, (does_run (σ' := upd σ d m) (S' := S) (fun o ho => run_appendOp ho ?_) (app_own hr he hm0 hd m1 (fun g hg => ?_) m3 (fr_grown r3)) (fr_grown r3) (hσ m)).mono fun q hq => ⟨id, by simp [modsApp], m0, hm0, hq⟩⟩
            · rw [hbe, hxe]
              exact r1
            · rw [m2] at hg
              rcases r4 with r4 | r4
              · rw [r4] at hg; exact .inl hg
              · rw [r4] at hg; cases hg; exact .inr (Nat.le_refl _)
      | _ => simp at h
  | _ => simp at h
theorem app_ok (hΓ : TOk P Γ) (hr : Rel n F0 w0 σ S s a w) {d : Nat} (hd : d < n) {t t' : TypeId} {bo xo : Operand} {b x : AV} (hb : aval s bo = some b) (hx : aval s xo = some x) {k : AS → Prop} (h : app Γ s d t t' b x k) :
    ∃ s', k s' ∧ Does P n F0 w0 σ a w (some d) (.call { callee := .builtin .append, args := #[bo, xo], argTypes := #[t, t'] }) (fun q => ∃ id ∈ modsApp b, OfId σ id q) s' := by
  unfold app at h
  cases ht : tget Γ t with
  | none => rw [ht] at h; cases h
  | some ti =>
    have hti := hΓ t ti ht
    rw [ht] at h
    cases ti with
    | sl e ek =>
      obtain ⟨hu, _, hek⟩ := hti
      cases ek with
      | i kk =>
        simp only at h
        cases hte : Nat.beq t t' with
        | true =>
          rw [hte] at h
          have := beq_true hte
          subst this
          simp only at h
          cases hl : listI s kk x with
          | none => rw [hl] at h; cases h
          | some xs => rw [hl] at h; exact appI_ok hr hd hu hek hb hx hl h
        | false =>
          rw [hte] at h
          simp only at h
          cases ht' : tget Γ t' with
          | none => rw [ht'] at h; simp at h
          | some ti' =>
            have hti' := hΓ t' _ ht'
            cases hz : zerosN x with
            | none => rw [ht', hz] at h; simp at h
            | some q =>
              rw [ht', hz] at h
              cases ti' with
              | int kt =>
                have hxq : x = .int .i64 q := by
                  unfold zerosN at hz
                  split at hz
                  · cases hz; rfl
                  · cases hz
                subst hxq
                exact appZ_ok hr hd hu hek hti'.1 hb hx h
              | _ => simp at h
      | r T =>
        simp only at h
        cases hte : Nat.beq t t' with
        | false => rw [hte] at h; simp at h
        | true =>
          rw [hte] at h
          have := beq_true hte
          subst this
          simp only at h
          cases hl : listR s T x with
          | none => rw [hl] at h; cases h
          | some xs => rw [hl] at h; exact appR_ok hr hd hu hek hb hx hl h
      | c => simp at h
    | _ => simp at h
end
end Go.Proofs.Ytokeanadhihlfaa.V


set_option linter.all false
namespace Go.Proofs.Ytokeanadhihlfaa.V
open Go Go.RowKit

section
variable {P : Program} {Γ : TEnv} {n : Nat} {F0 : Fx} {w0 w w' : World} {σ σ' : Sg} {S S' : Nat → Prop} {s s' : AS} {a : Act}
/-- Another world in which all that is known reads as before. -/
theorem Rel.world (h : Rel n F0 w0 σ S s a w) (hk : ∀ b o, S b → w'.cell? ⟨b, o, none⟩ = w.cell? ⟨b, o, none⟩) (ho : ∀ id e m g, get s.h id = some e → σ id = some m → m.g = some g → w'.heap[g]? = w.heap[g]?) (hsz : w.heap.size ≤ w'.heap.size) (hfr : Fr F0.p w0 w') :
    Rel n F0 w0 σ S s a w' where
  small := h.small
  sz := h.sz
  defers := h.defers
  slots := fun t y hy => by
    obtain ⟨v, hv, hr⟩ := h.slots t y hy
    exact ⟨v, hv, hr.keep hk fun _ h => h⟩
  ents := fun i y hy => by
    obtain ⟨m, hm, hr⟩ := h.ents i y hy
    exact ⟨m, hm, hr.keep hk (fun _ h => h) fun g hg => ho i y m g hy hm hg⟩
  inj := h.inj
  apart := h.apart
  old := h.old
  Sold := fun b hb => Nat.lt_of_lt_of_le (h.Sold b hb) hsz
  ent := h.ent
  mono := h.mono
  src := h.src
  fr := hfr
theorem mark_ok (hΓ : TOk P Γ) (hr : Rel n F0 w0 σ S s a w) {d : Nat} (hd : d < n) {src dt : TypeId} {x : Operand} {k : AS → Prop} (C : Oracle) (pm : FuncId → Option Pm) (h : wop Γ C pm s (some d) (.convert src dt x) k) :
    ∃ s', k s' ∧ Does P n F0 w0 σ a w (some d) (.convert src dt x) (fun q => ∃ id ∈ modsConv s x, OfId σ id q) s' := by
  simp only [wop] at h
  cases hte : Nat.beq src dt with
  | false => rw [hte] at h; simp at h
  | true =>
    have := beq_true hte
    subst this
    rw [hte] at h
    cases ht : tget Γ src with
    | none => rw [ht] at h; simp at h
    | some ti =>
      have hti := hΓ src ti ht
      rw [ht] at h
      cases hx : aval s x with
      | none => rw [hx] at h; simp at h
      | some xa =>
        rw [hx] at h
        split at h
        · rename_i e id heq1 heq2 heq3
          cases heq2
          cases heq3
          cases he : get s.h id with
          | none => rw [he] at h; simp at h
          | some en =>
            rw [he] at h
            split at h
            · rename_i en' t kk z l heq
              cases heq
              obtain ⟨m, hm, hen⟩ := hr.ents id _ he
              have hrx := aval_ok hr hx
              have hrx' := hrx
              simp only [RepV, RepV0, Rep, List.cons.injEq, and_true] at hrx'
              obtain ⟨m', hm', hxe⟩ := hrx'
              rw [hm] at hm'
              cases hm'
              have hen' := hen
              simp only [EntR] at hen'
              obtain ⟨e1, e2, e3, e4, e5, e6, e7⟩ := hen'
              have hgs : ∃ g, m.g = some g := by
                cases hg : m.g with
                | some g => exact ⟨g, rfl⟩
                | none => have := e6 hg; simp at e2; omega
              obtain ⟨g, hg⟩ := hgs
              obtain ⟨cur, hb, hc, _⟩ := e7 g hg
              obtain ⟨hu, _, hue, _⟩ := hti
              -- the model's step
              have hw : ∀ (q : Nat), w.heap[q]? = (w.freeze ⟨g, cur.size, none⟩ 1).heap[q]? ∨ q = g := by
                intro q
                by_cases hq : q = g
                · exact .inr hq
                · left
                  simp [World.freeze, Array.getElem?_modify, Ne.symm hq]
              have hcell : ∀ b o, (w.freeze ⟨g, cur.size, none⟩ 1).cell? ⟨b, o, none⟩ = w.cell? ⟨b, o, none⟩ := by
                intro b o
                by_cases hq : b = g
                · subst hq
                  unfold Blk at hb
                  simp [World.cell?, World.freeze, Array.getElem?_modify, hb]
                · rcases hw b with h1 | h1
                  · simp [World.cell?, ← h1]
                  · exact absurd h1 hq
              have hsz : (w.freeze ⟨g, cur.size, none⟩ 1).heap.size = w.heap.size := by simp [World.freeze]
              have hfr : Fr (fun q => m.g = some q) w (w.freeze ⟨g, cur.size, none⟩ 1) := ⟨rfl, rfl, rfl, by rw [hsz]; exact Nat.le_refl _, fun q _ hq => by
                rcases hw q with h1 | h1
                · exact h1.symm
                · exact absurd (by rw [hg, h1]) hq⟩
              have hrun : ∀ o : Oper, o.op = .convert src src x → (execOp a.eval o).run P w = .ok (.value (.slice (m.addr 0) m.n m.cap)) (w.freeze ⟨g, cur.size, none⟩ 1) := by
                intro o ho
                unfold Blk at hb
                simp [execOp, ho, hxe, Mb.addr, hg, convert, run_underlying hu, run_underlying hue, markStringish, shape, freeze, Sem.run, World.shape?, hb]
              have hf := hr.frz he hm (.inl ⟨t, kk, _, rfl⟩)
              have hf2 := hf.world (w' := w.freeze ⟨g, cur.size, none⟩ 1) (fun b o _ => hcell b o) (fun i y m2 g2 h1 h2 h3 => by
                rcases hw g2 with q | q
                · exact q.symm
                · subst q
                  exact absurd (.inr hg) (hf.apart i y m2 g2 h1 h2 h3)) (by rw [hsz]; exact Nat.le_refl _)
                ⟨hfr.os.trans hr.fr.os, hfr.tape.trans hr.fr.tape, hfr.output.trans hr.fr.output, by rw [hsz]; exact hr.fr.size, fun q hq hF => (hfr.block q (Nat.lt_of_lt_of_le hq hr.fr.size) (fun e => hF (hr.old id _ m q he hm e hq))).trans (hr.fr.block q hq hF)⟩
              refine ⟨_, h, (does_run (M := fun q => m.g = some q) (σ' := σ) (S' := fun b => S b ∨ m.g = some b) hrun (hf2.tput hd ?_) hfr fun _ _ => rfl).mono fun q hq => ⟨id, by simp [modsConv, hx], m, hm, hq⟩⟩
              have hgh := Rep.ghostf (w := w) (S := S) (S' := fun b => S b ∨ m.g = some b) hm hen (.inl ⟨t, kk, _, rfl⟩) (fun b hb => .inl hb) (fun g hg => .inr hg) (cs := [.slice (m.addr 0) m.n m.cap]) (by simp only [Rep]; exact ⟨m, hm, rfl⟩)
              have := Rep.keep (w' := w.freeze ⟨g, cur.size, none⟩ 1) (S' := fun b => S b ∨ m.g = some b) _ _ hgh (fun b o _ => hcell b o) (fun _ h => h)
              simp only [V.ghostf] at this
              exact this
            · cases h
        · cases h
end
end Go.Proofs.Ytokeanadhihlfaa.V
