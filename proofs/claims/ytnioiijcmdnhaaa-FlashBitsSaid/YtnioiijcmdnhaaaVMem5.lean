/-
  'append', and the mark that a constant string leaves: the operations. Plain theorems; no function of the program is named here.
-/
import Derived.Test.YtnioiijcmdnhaaaVMem4
set_option linter.all false
namespace Go.Proofs.Ytnioiijcmdnhaaa.V
open Go Go.RowKit

section
variable {P : Program} {Γ : TEnv} {n : Nat} {F0 : Fx} {w0 w w' : World} {σ σ' : Sg} {S S' : Nat → Prop} {s s' : AS} {a : Act}

theorem run_appendOp {o : Oper} {b x : Operand} {t t' : TypeId} {v : Value} (ho : o.op = .call { callee := .builtin .append, args := #[b, x], argTypes := #[t, t'] }) (h : (Builtin.append_ #[t, t'] o.type #[a.eval b, a.eval x]).run P w = .ok v w') :
    (execOp a.eval o).run P w = .ok (.value v) w' := by
  simp [execOp, ho, resolve, invoke, builtin, h]
/-- A new row. -/
theorem app_fresh (hr : Rel n F0 w0 σ S s a w) {d : Nat} (hd : d < n) {e : AV} {v' : Value} {m : Mb} (hv : v' = .slice (m.addr 0) m.n m.cap) (hg : ∀ g, m.g = some g → w.heap.size ≤ g) (hent : ∀ σ, EntR w' S σ e m) (hfr : Fr (fun _ => False) w w') :
    Rel n F0 w0 (upd σ d m) S (s.new d e (.ownf d)) (a.put (some d) v') w' := by
  subst hv
  exact (hr.fresh hfr hd (hent _) hg).tput hd rep_ownf
theorem app_own (hr : Rel n F0 w0 σ S s a w) {id : Nat} {e0 : AV} {m0 : Mb} (he0 : get s.h id = some e0) (hm0 : σ id = some m0) {d : Nat} (hd : d < n) {e : AV} {v' : Value} {m : Mb} (hv : v' = .slice (m.addr 0) m.n m.cap) (hg : ∀ g, m.g = some g → m0.g = some g ∨ w.heap.size ≤ g)
    (hent : ∀ σ, EntR w' S σ e m) (hfr : Fr (fun b => m0.g = some b) w w') : Rel n F0 w0 (upd σ d m) S ((s.kill id).new d e (.ownf d)) (a.put (some d) v') w' := by
  subst hv
  exact (hr.grow he0 hm0 hfr hd (hent _) hg).tput hd rep_ownf
theorem ownBlock_addr (m : Mb) : (Value.slice (m.addr 0) m.n m.cap).ownBlock = m.g := by
  cases hg : m.g <;> simp [Mb.addr, hg, Value.ownBlock]
theorem lim_bytes {q by_ : Nat} (h : q ≤ lim) (hb : by_ ≤ 128) : q * by_ ≤ 140737488355328 := by
  have h1 : q * by_ ≤ q * 128 := Nat.mul_le_mul_left _ hb
  have : lim = 1099511627776 := rfl
  omega
theorem lim_max {q : Nat} (h : q ≤ lim) : q ≤ maxLen := by
  have : lim = 1099511627776 := rfl
  unfold maxLen
  omega
theorem appI_ok (hr : Rel n F0 w0 σ S s a w) {d : Nat} (hd : d < n) {t e : TypeId} {kk : IntKind} (hu : P.underlying t = some (.slice e)) (hek : EKok P e (.i kk)) {bo xo : Operand} {b x : AV} (hb : aval s bo = some b) (hx : aval s xo = some x) {xs : List Int} (hl : listI s kk x = some xs)
    {k : AS → Prop} (h : appI s d e kk xs b k) :
    ∃ s', k s' ∧ Does P n F0 w0 σ a w (some d) (.call { callee := .builtin .append, args := #[bo, xo], argTypes := #[t, t] }) (fun q => ∃ id ∈ modsApp b, OfId σ id q) s' := by
  have hrb := aval_ok hr hb
  have hrx := aval_ok hr hx
  have hσ : ∀ m : Mb, ∀ id, some d ≠ some id → upd σ d m id = σ id := fun m id hid => by simp [upd]; intro e; exact absurd (by rw [e]) hid
  obtain ⟨A, c, hxe, x1, x2, x3, x4⟩ := listI_ok hr hrx hl
  obtain ⟨by_, hby, hel⟩ := elem_i hu hek
  unfold appI at h
  cases b with
  | nil =>
    simp only at h
    obtain ⟨hc, h⟩ := chk_some h
    have hc' : xs.length ≤ lim := by simpa using hc
    simp only [RepV, RepV0, Rep, List.cons.injEq, and_true] at hrb
    have hrow := fun ty => run_append_row (P := P) (ty := ty) (w := w) hel 0 (World.ownsRow_nil w 0 e 1) (m := xs.length) (c := c) x4 (by simp) (one_ints kk xs) (by rw [Nat.zero_add]; exact lim_max hc') (by rw [Nat.zero_add]; exact lim_bytes hc' hby) (Nat.zero_le _)
    obtain ⟨v', w', r1, r2, r3, r4⟩ := hrow t
    simp only [Nat.zero_add, List.nil_append] at r2
    obtain ⟨m, m1, m2, m3⟩ := lini_of_own r2 x3
    refine ⟨_, h, (does_run (M := fun _ => False) (σ' := upd σ d m) (S' := S) (fun o ho => run_appendOp ho ?_) (app_fresh hr hd m1 (fun g hg => ?_) (m3 S) ((fr_grown r3).weak fun b hb => by cases hb)) ((fr_grown r3).weak fun b hb => by cases hb) (hσ m)).mono fun _ h => h.elim⟩
    · rw [hrb, hxe]
      exact r1
    · rcases r4 with r4 | r4
      · rw [m2, r4] at hg; cases hg
      · rw [m2, r4] at hg; cases hg; exact Nat.le_refl _
  | ints f kk' l =>
    cases f with
    | false => simp at h
    | true =>
      simp only at h
      cases hk : kbeq kk kk' with
      | false => rw [hk] at h; cases h
      | true =>
        have := kbeq_true hk
        subst this
        rw [hk] at h
        obtain ⟨hc, h⟩ := chk_some h
        simp only [Bool.and_eq_true, decide_eq_true_eq] at hc
        obtain ⟨c0, c1⟩ := hc
        simp only [RepV, RepV0, Rep, List.cons.injEq, and_true] at hrb
        obtain ⟨B, cb, hbe, hsi, hfull⟩ := hrb
        have hcb : cb = l.length := by simpa using hfull
        subst hcb
        obtain ⟨xb, xoff, hA, _, xcell⟩ := x4 (by simp; intro e; rw [e] at c0; simp at c0)
        obtain ⟨i, z, e1, e2, e3, e4, e5, e6, e7⟩ := hel
        -- what the growing arm leaves
        have fin : ∀ (B' : Addr) (hB : B = some B') , ∃ s', k s' ∧ Does P n F0 w0 σ a w (some d) (.call { callee := .builtin .append, args := #[bo, xo], argTypes := #[t, t] }) (fun q => ∃ id ∈ modsApp (.ints true kk l), OfId σ id q) s' := by
          intro B' hB
          subst hB
          have hold : ∀ j v, (l.map (Value.int kk))[j]? = some v → w.cell? (B'.add j) = some v := by
            intro j v hv
            obtain ⟨b, off, h1, _, h2⟩ := row_at hsi.row hv
            simp only [Option.some.injEq] at h1
            subst h1
            rw [Addr.add_lit]
            exact h2
          have hnew : ∀ j v, (xs.map (Value.int kk))[j]? = some v → w.cell? ((⟨xb, xoff, none⟩ : Addr).add j) = some v := by
            intro j v hv
            rw [Addr.add_lit]
            exact xcell j v hv
          have hrun := fun ty => run_append_grow (P := P) w t ty e i z e1 e2 e3 B' l.length l.length (l.map (Value.int kk)) (by simp [e4]) hold ⟨xb, xoff, none⟩ xs.length c (xs.map (Value.int kk)) (by simp [e4]) hnew (by omega)
            (by have := lim_max c1; unfold maxLen at this; omega) (growslice_fits (by omega) (by rw [e5]; exact lim_bytes c1 hby))
          have hge := grownCap_ge w (l.length + xs.length) l.length e
          have hcm : grownCap w (l.length + xs.length) l.length e ≤ maxLen := grownCap_le_maxLen w _ _ e (lim_max c1)
          refine ⟨_, h, (does_run (M := fun _ => False) (σ' := upd σ d ⟨some w.heap.size, 1, l.length + xs.length, grownCap w (l.length + xs.length) l.length e⟩) (S' := S) (fun o ho => run_appendOp ho (by rw [hbe, hxe, hA]; exact hrun _))
            (app_fresh hr hd (m := ⟨some w.heap.size, 1, l.length + xs.length, grownCap w (l.length + xs.length) l.length e⟩) (by simp [Mb.addr]) (fun g hg => by cases hg; exact Nat.le_refl _) (fun σ' => ?_) ?_) ?_ (hσ _)).mono fun _ h => h.elim⟩
          · unfold EntR
            refine ⟨rfl, by simp, hge, hcm, fun q hq => ?_, (fun h => by cases h), fun g hg => ?_⟩
            · rcases List.mem_append.1 hq with hq | hq
              · exact hsi.rng q hq
              · exact x3 q hq
            · cases hg
              refine ⟨_, heap_alloc_new w.drew _, ?_, ?_⟩
              · simp only [Array.size_append, List.size_toArray, size_zeroCells, e6, List.length_map]
                omega
              · simp only [Array.toList_append, List.toList_toArray, Nat.mul_one, List.map_append]
                have hl2 : (l.map (Value.int kk) ++ xs.map (Value.int kk)).length = l.length + xs.length := by simp
                rw [← hl2]
                exact List.take_left
          · exact ⟨rfl, rfl, rfl, by simp, fun q hq _ => Below.heap_alloc w.drew _ q hq⟩
          · exact ⟨rfl, rfl, rfl, by simp, fun q hq _ => Below.heap_alloc w.drew _ q hq⟩
        cases hB : B with
        | some B' => exact fin B' hB
        | none =>
          -- a nil slice
          have hl0 : l = [] := by
            rcases Classical.em (l = []) with h0 | h0
            · exact h0
            · obtain ⟨b, off, h1, _⟩ := hsi.row (by simpa using h0)
              rw [hB] at h1
              cases h1
          subst hl0
          rw [hB] at hbe
          have hrow := fun ty => run_append_row (P := P) (ty := ty) (w := w) ⟨i, z, e1, e2, e3, e4, e5, e6, e7⟩ 0 (World.ownsRow_nil w 0 e 1) (m := xs.length) (c := c) x4 (by simp) (one_ints kk xs) (by simp at c1; rw [Nat.zero_add]; exact lim_max c1) (by simp at c1; rw [Nat.zero_add]; exact lim_bytes c1 hby) (Nat.zero_le _)
          obtain ⟨v', w', r1, r2, r3, r4⟩ := hrow t
          simp only [Nat.zero_add, List.nil_append] at r2
          obtain ⟨m, m1, m2, m3⟩ := lini_of_own r2 x3
          refine ⟨_, h, (does_run (M := fun _ => False) (σ' := upd σ d m) (S' := S) (fun o ho => run_appendOp ho ?_) (app_fresh hr hd m1 (fun g hg => ?_) (fun σ' => by simpa using m3 S σ') ((fr_grown r3).weak fun b hb => by cases hb)) ((fr_grown r3).weak fun b hb => by cases hb) (hσ m)).mono fun _ h => h.elim⟩
          · rw [hbe, hxe]
            exact r1
          · rcases r4 with r4 | r4
            · rw [m2, r4] at hg; cases hg
            · rw [m2, r4] at hg; cases hg; exact Nat.le_refl _
  | ownf id =>
    simp only at h
    cases he : get s.h id with
    | none => rw [he] at h; cases h
    | some en =>
      rw [he] at h
      obtain ⟨m0, hm0, hen⟩ := hr.ents id en he
      cases en with
      | lini e' kk' l =>
        simp only at h
        cases he1 : Nat.beq e e' with
        | false => rw [he1] at h; simp at h
        | true =>
          cases hk : kbeq kk kk' with
          | false => rw [he1, hk] at h; simp at h
          | true =>
            have := kbeq_true hk
            subst this
            have := beq_true he1
            subst this
            rw [he1, hk] at h
            obtain ⟨hc, h⟩ := chk_some h
            have hc' : l.length + xs.length ≤ lim := by simpa using hc
            simp only [RepV, RepV0, Rep, List.cons.injEq, and_true] at hrb
            obtain ⟨m0', hm0', hbe⟩ := hrb
            rw [hm0] at hm0'
            cases hm0'
            have hown := own_of_lini hen
            have hn0 : m0.n = l.length := by simp only [EntR] at hen; exact hen.2.1
            have hrg : ∀ z ∈ l ++ xs, inK kk z = true := fun z hz => by
              simp only [EntR] at hen
              rcases List.mem_append.1 hz with hz | hz
              · exact hen.2.2.2.2.1 z hz
              · exact x3 z hz
            obtain ⟨v', w', r1, r2, r3, r4⟩ := run_append_row (P := P) (ty := t) (w := w) hel 0 hown (m := xs.length) (c := c) x4 (by simp) (one_ints kk xs) (by rw [hn0]; exact lim_max hc') (by rw [hn0]; exact lim_bytes hc' hby) (Nat.zero_le _)
            rw [← List.map_append] at r2
            rw [ownBlock_addr] at r3 r4
            obtain ⟨m, m1, m2, m3⟩ := lini_of_own r2 hrg
            refine ⟨_, h, (does_run (σ' := upd σ d m) (S' := S) (fun o ho => run_appendOp ho ?_) (app_own hr he hm0 hd m1 (fun g hg => ?_) (m3 S) (fr_grown r3)) (fr_grown r3) (hσ m)).mono fun q hq => ⟨id, by simp [modsApp], m0, hm0, hq⟩⟩
            · rw [hbe, hxe]
              exact r1
            · rw [m2] at hg
              rcases r4 with r4 | r4
              · rw [r4] at hg; exact .inl hg
              · rw [r4] at hg; cases hg; exact .inr (Nat.le_refl _)
      | _ => simp at h
  | _ => simp at h
theorem appZ_ok (hr : Rel n F0 w0 σ S s a w) {d : Nat} (hd : d < n) {t t' e : TypeId} {kk kt : IntKind} (hu : P.underlying t = some (.slice e)) (hek : EKok P e (.i kk)) (hut : P.underlying t' = some (.int kt)) {bo xo : Operand} {b : AV} {q : Int} (hb : aval s bo = some b) (hx : aval s xo = some (.int .i64 q))
    {k : AS → Prop} (h : appZ s d e kk q b k) :
    ∃ s', k s' ∧ Does P n F0 w0 σ a w (some d) (.call { callee := .builtin .append, args := #[bo, xo], argTypes := #[t, t'] }) (fun q => ∃ id ∈ modsApp b, OfId σ id q) s' := by
  have hrb := aval_ok hr hb
  have hrx := aval_ok hr hx
  have hσ : ∀ m : Mb, ∀ id, some d ≠ some id → upd σ d m id = σ id := fun m id hid => by simp [upd]; intro e; exact absurd (by rw [e]) hid
  unfold appZ at h
  obtain ⟨hxe, _⟩ := Rep1.int hrx
  cases b with
  | ownf id =>
    simp only at h
    cases he : get s.h id with
    | none => rw [he] at h; cases h
    | some en =>
      rw [he] at h
      obtain ⟨m0, hm0, hen⟩ := hr.ents id en he
      cases en with
      | lini e' kk' l =>
        simp only at h
        cases he1 : Nat.beq e e' with
        | false => rw [he1] at h; simp at h
        | true =>
          cases hk : kbeq kk kk' with
          | false => rw [he1, hk] at h; simp at h
          | true =>
            have := kbeq_true hk
            subst this
            have := beq_true he1
            subst this
            rw [he1, hk] at h
            obtain ⟨hc, h⟩ := chk_some h
            simp only [Bool.and_eq_true, decide_eq_true_eq] at hc
            obtain ⟨c0, c1⟩ := hc
            simp only [RepV, RepV0, Rep, List.cons.injEq, and_true] at hrb
            obtain ⟨m0', hm0', hbe⟩ := hrb
            rw [hm0] at hm0'
            cases hm0'
            have hown := own_of_lini hen
            have hn0 : m0.n = l.length := by simp only [EntR] at hen; exact hen.2.1
            obtain ⟨hue, i, hie, his, hiz, hib⟩ := hek
            obtain ⟨q', rfl⟩ : ∃ q' : Nat, q = (q' : Int) := ⟨q.toNat, by omega⟩
            have hrg : ∀ z ∈ l ++ List.replicate q' 0, inK kk z = true := fun z hz => by
              simp only [EntR] at hen
              rcases List.mem_append.1 hz with hz | hz
              · exact hen.2.2.2.2.1 z hz
              · rw [List.eq_of_mem_replicate hz]; cases kk <;> rfl
            obtain ⟨v', w', r1, r2, r3, r4⟩ := run_append_zeros (ty := 0) hu hut hie his hiz hib hown .i64 (z := q') (by rw [hn0]; exact c1)
            rw [← List.map_replicate, ← List.map_append] at r2
            rw [ownBlock_addr] at r3 r4
            obtain ⟨m, m1, m2, m3⟩ := lini_of_own r2 hrg
            refine ⟨_, h, (does_run (σ' := upd σ d m) (S' := S) (fun o ho => run_appendOp ho ?_) (app_own hr he hm0 hd m1 (fun g hg => ?_) (by simpa using m3 S) (fr_grown r3)) (fr_grown r3) (hσ m)).mono fun q hq => ⟨id, by simp [modsApp], m0, hm0, hq⟩⟩
            · rw [hbe, hxe]
              exact r1
            · rw [m2] at hg
              rcases r4 with r4 | r4
              · rw [r4] at hg; exact .inl hg
              · rw [r4] at hg; cases hg; exact .inr (Nat.le_refl _)
      | _ => simp at h
  | _ => simp at h
theorem appR_ok (hr : Rel n F0 w0 σ S s a w) {d : Nat} (hd : d < n) {t e : TypeId} {T : Nat} (hu : P.underlying t = some (.slice e)) (hek : EKok P e (.r T)) {bo xo : Operand} {b x : AV} (hb : aval s bo = some b) (hx : aval s xo = some x) {xs : List Rec} (hl : listR s T x = some xs)
    {k : AS → Prop} (h : appR s d e T xs b k) :
    ∃ s', k s' ∧ Does P n F0 w0 σ a w (some d) (.call { callee := .builtin .append, args := #[bo, xo], argTypes := #[t, t] }) (fun q => ∃ id ∈ modsApp b, OfId σ id q) s' := by
  have hrb := aval_ok hr hb
  have hrx := aval_ok hr hx
  have hσ : ∀ m : Mb, ∀ id, some d ≠ some id → upd σ d m id = σ id := fun m id hid => by simp [upd]; intro e; exact absurd (by rw [e]) hid
  unfold appR at h
  obtain ⟨A, c, css, hxe, x1, x2, x3, x4⟩ := listR_ok hr hrx hl
  obtain ⟨by_, hby, hel⟩ := elem_r hu hek
  have hxl : css.flatten.length = xs.length * esz T := by rw [flat_len (esz T) css x3.es, x3.len]
  cases b with
  | nil =>
    simp only at h
    obtain ⟨hc, h⟩ := chk_some h
    have hc' : xs.length ≤ lim := by simpa using hc
    simp only [RepV, RepV0, Rep, List.cons.injEq, and_true] at hrb
    obtain ⟨v', w', r1, r2, r3, r4⟩ := run_append_row (P := P) (ty := t) (w := w) hel 0 (World.ownsRow_nil w 0 e (esz T)) (c := c) x4 hxl x3.one (by rw [Nat.zero_add]; exact lim_max hc') (by rw [Nat.zero_add]; exact lim_bytes hc' hby) (Nat.zero_le _)
    simp only [Nat.zero_add, List.nil_append] at r2
    have hfr0 : Fr (fun _ => False) w w' := (fr_grown r3).weak fun b hb => by cases hb
    have hkeep : ∀ b o, S b → w'.cell? ⟨b, o, none⟩ = w.cell? ⟨b, o, none⟩ := fun b o hb => by
      have := hfr0.block b (hr.Sold b hb) id
      simp [World.cell?, this]
    obtain ⟨m, m1, m2, m3⟩ := linr_of_own r2 (x3.keep (S' := S) hkeep fun _ h => h)
    refine ⟨_, h, (does_run (M := fun _ => False) (σ' := upd σ d m) (S' := S) (fun o ho => run_appendOp ho ?_) (app_fresh hr hd m1 (fun g hg => ?_) m3 hfr0) hfr0 (hσ m)).mono fun _ h => h.elim⟩
    · rw [hrb, hxe]
      exact r1
    · rcases r4 with r4 | r4
      · rw [m2, r4] at hg; cases hg
      · rw [m2, r4] at hg; cases hg; exact Nat.le_refl _
  | ownf id =>
    simp only at h
    cases he : get s.h id with
    | none => rw [he] at h; cases h
    | some en =>
      rw [he] at h
      obtain ⟨m0, hm0, hen⟩ := hr.ents id en he
      cases en with
      | linr e' T' l =>
        simp only at h
        cases he1 : Nat.beq e e' with
        | false => rw [he1] at h; simp at h
        | true =>
          cases hk : Nat.beq T T' with
          | false => rw [he1, hk] at h; simp at h
          | true =>
            have := beq_true hk
            subst this
            have := beq_true he1
            subst this
            rw [he1, hk] at h
            obtain ⟨hc, h⟩ := chk_some h
            have hc' : l.length + xs.length ≤ lim := by simpa using hc
            simp only [RepV, RepV0, Rep, List.cons.injEq, and_true] at hrb
            obtain ⟨m0', hm0', hbe⟩ := hrb
            rw [hm0] at hm0'
            cases hm0'
            have hn0 : m0.n = l.length := by simp only [EntR] at hen; exact hen.2.1
            obtain ⟨css0, h0, hown⟩ := own_of_linr hen
            obtain ⟨v', w', r1, r2, r3, r4⟩ := run_append_row (P := P) (ty := t) (w := w) hel 0 hown (c := c) x4 hxl x3.one (by rw [hn0]; exact lim_max hc') (by rw [hn0]; exact lim_bytes hc' hby) (Nat.zero_le _)
            rw [← List.flatten_append] at r2
            rw [ownBlock_addr] at r3 r4
            have hkeep : ∀ b o, S b → w'.cell? ⟨b, o, none⟩ = w.cell? ⟨b, o, none⟩ := fun b o hb => by
              have := (fr_grown r3).block b (hr.Sold b hb) (fun e => hr.apart id _ m0 b he hm0 e hb)
              simp [World.cell?, this]
            obtain ⟨m, m1, m2, m3⟩ := linr_of_own r2 ((h0.append x3).keep (S' := S) hkeep fun _ h => h)
            refine ⟨_, h, (does_run (σ' := upd σ d m) (S' := S) (fun o ho => run_appendOp ho ?_) (app_own hr he hm0 hd m1 (fun g hg => ?_) m3 (fr_grown r3)) (fr_grown r3) (hσ m)).mono fun q hq => ⟨id, by simp [modsApp], m0, hm0, hq⟩⟩
            · rw [hbe, hxe]
              exact r1
            · rw [m2] at hg
              rcases r4 with r4 | r4
              · rw [r4] at hg; exact .inl hg
              · rw [r4] at hg; cases hg; exact .inr (Nat.le_refl _)
      | _ => simp at h
  | _ => simp at h
theorem app_ok (hΓ : TOk P Γ) (hr : Rel n F0 w0 σ S s a w) {d : Nat} (hd : d < n) {t t' : TypeId} {bo xo : Operand} {b x : AV} (hb : aval s bo = some b) (hx : aval s xo = some x) {k : AS → Prop} (h : app Γ s d t t' b x k) :
    ∃ s', k s' ∧ Does P n F0 w0 σ a w (some d) (.call { callee := .builtin .append, args := #[bo, xo], argTypes := #[t, t'] }) (fun q => ∃ id ∈ modsApp b, OfId σ id q) s' := by
  unfold app at h
  cases ht : tget Γ t with
  | none => rw [ht] at h; cases h
  | some ti =>
    have hti := hΓ t ti ht
    rw [ht] at h
    cases ti with
    | sl e ek =>
      obtain ⟨hu, _, hek⟩ := hti
      cases ek with
      | i kk =>
        simp only at h
        cases hte : Nat.beq t t' with
        | true =>
          rw [hte] at h
          have := beq_true hte
          subst this
          simp only at h
          cases hl : listI s kk x with
          | none => rw [hl] at h; cases h
          | some xs => rw [hl] at h; exact appI_ok hr hd hu hek hb hx hl h
        | false =>
          rw [hte] at h
          simp only at h
          cases ht' : tget Γ t' with
          | none => rw [ht'] at h; simp at h
          | some ti' =>
            have hti' := hΓ t' _ ht'
            cases hz : zerosN x with
            | none => rw [ht', hz] at h; simp at h
            | some q =>
              rw [ht', hz] at h
              cases ti' with
              | int kt =>
                have hxq : x = .int .i64 q := by
                  unfold zerosN at hz
                  split at hz
                  · cases hz; rfl
                  · cases hz
                subst hxq
                exact appZ_ok hr hd hu hek hti'.1 hb hx h
              | _ => simp at h
      | r T =>
        simp only at h
        cases hte : Nat.beq t t' with
        | false => rw [hte] at h; simp at h
        | true =>
          rw [hte] at h
          have := beq_true hte
          subst this
          simp only at h
          cases hl : listR s T x with
          | none => rw [hl] at h; cases h
          | some xs => rw [hl] at h; exact appR_ok hr hd hu hek hb hx hl h
      | c => simp at h
    | _ => simp at h
end
end Go.Proofs.Ytnioiijcmdnhaaa.V
