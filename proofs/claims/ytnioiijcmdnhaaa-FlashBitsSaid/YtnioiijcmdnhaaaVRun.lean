/-
  Regions and code: what the evaluator gives holds of the model. Plain theorems; no function of the program is named here.
-/
import Derived.Test.YtnioiijcmdnhaaaVCall
set_option linter.all false
namespace Go.Proofs.Ytnioiijcmdnhaaa.V
open Go Go.RowKit

/-- What the evaluator's tables must be for a program. -/
structure COk (P : Program) (c : Cfg) : Prop where
  types : TOk P c.Γ
  orac : OOk P c.C
  funs : FOk P c.C

section
variable {P : Program} {c : Cfg} {F0 : Fx} {w0 w w' : World} {σ σ' : Sg} {S S' : Nat → Prop} {s s' : AS} {a : Act}

theorem wop_ok (hc : COk P c) (hr : Rel c.n F0 w0 σ S s a w) {dst : Option Tmp} (hd : dstOk c.n dst = true) {op : Op} {k : AS → Prop} (h : wop c.Γ c.C c.pm s dst op k) :
    DoesK P c.n F0 w0 σ a w dst op (fun q => ∃ id ∈ mods c.pm s op, OfId σ id q) k := by
  have lift : ∀ {M : Nat → Prop} (hM : ∀ b, M b → ∃ id ∈ mods c.pm s op, OfId σ id b), (∃ s', k s' ∧ Does P c.n F0 w0 σ a w dst op M s') → DoesK P c.n F0 w0 σ a w dst op (fun q => ∃ id ∈ mods c.pm s op, OfId σ id q) k := by
    rintro M hM ⟨s', h1, h2⟩ o K Q ho hod hK
    exact (h2.mono hM) o K Q ho hod fun a' w' σ' S' g1 g2 g3 => hK s' a' w' σ' S' h1 g1 g2 g3
  cases op with
  | alloc t =>
    cases dst with
    | none => simp [wop] at h
    | some d => exact lift (fun _ h => h.elim) (alloc_ok hc.types hr (by simpa [dstOk] using hd) _ _ h)
  | box t x =>
    cases dst with
    | none => simp [wop] at h
    | some d => exact lift (fun _ h => h.elim) (box_ok hc.types hr (by simpa [dstOk] using hd) _ _ h)
  | buildSlice t len ps =>
    cases dst with
    | none => simp [wop] at h
    | some d => exact lift (fun _ h => h.elim) (lit_ok hc.types hr (by simpa [dstOk] using hd) _ _ h)
  | makeSlice t x y =>
    cases dst with
    | none => simp [wop] at h
    | some d => exact lift (fun _ h => h.elim) (make_ok hc.types hr (by simpa [dstOk] using hd) _ _ h)
  | store t x y =>
    cases dst with
    | some d => simp [wop] at h
    | none => exact lift (fun b hb => hb) (store_ok hc.types hr _ _ h)
  | convert src dt x =>
    cases dst with
    | none => simp [wop] at h
    | some d => exact lift (fun b hb => hb) (mark_ok hc.types hr (by simpa [dstOk] using hd) _ _ h)
  | makeFunc fn first cap =>
    cases dst with
    | none => simp [wop] at h
    | some d =>
      cases fn with
      | func f => exact lift (fun _ h => h.elim) (makeFn_ok hr (by simpa [dstOk] using hd) h)
      | _ => simp [wop] at h
  | call cl =>
    obtain ⟨callee, args, ts⟩ := cl
    simp only [wop] at h
    cases callee with
    | builtin b =>
      cases b with
      | append =>
        simp only at h
        obtain ⟨al⟩ := args
        obtain ⟨tl⟩ := ts
        match al, tl, dst, h with
        | [bo, xo], [t, t'], some d, h =>
          simp only at h
          cases hb : aval s bo with
          | none => rw [hb] at h; simp at h
          | some b =>
            cases hx : aval s xo with
            | none => rw [hb, hx] at h; simp at h
            | some x =>
              rw [hb, hx] at h
              exact lift (fun q hq => by simpa [mods, hb] using hq) (app_ok hc.types hr (by simpa [dstOk] using hd) hb hx h)
      | _ => simp at h
    | value f =>
      cases f with
      | func f =>
        simp only at h
        cases hx : avalL s args.toList with
        | none => rw [hx] at h; cases h
        | some xs =>
          rw [hx] at h
          have := call_ok (ts := ts) hc.orac hc.funs hr hd hx h
          simpa [mods, hx] using this
      | tmp t =>
        simp only at h
        cases ht : get s.t t with
        | none => rw [ht] at h; simp at h
        | some x =>
          cases hx : avalL s args.toList with
          | none => rw [ht, hx] at h; simp at h
          | some xs =>
            rw [ht, hx] at h
            cases x with
            | fn f cp =>
              have := callV_ok (ts := ts) hc.orac hc.funs hr hd ht hx h
              intro o K Q ho hod hK
              exact this o K Q ho hod fun s' a' w' σ' S' h1 h2 h3 h4 => hK s' a' w' σ' S' h1 h2 (h3.weak fun b hb => hb.elim) h4
            | _ => simp at h
      | _ => simp at h
    | invoke _ _ => simp at h
  | _ => cases dst <;> simp [wop] at h
theorem agree_refl : Agree S σ s.h w w := Agree.refl _ _ _ _
theorem op1_ok (hc : COk P c) (hr : Rel c.n F0 w0 σ S s a w) {o : Oper} (hd : dstOk c.n o.dst = true) {k : AS → Prop} (h : op1 c s o k) :
    DoesK P c.n F0 w0 σ a w o.dst o.op (fun q => ∃ id ∈ mods c.pm s o.op, OfId σ id q) k := by
  unfold op1 at h
  cases hst : steady c.Γ o.op with
  | true =>
    rw [hst] at h
    cases hdst : o.dst with
    | none => rw [hdst] at h; simp at h
    | some d =>
      rw [hdst] at h
      simp only at h
      obtain ⟨x, v, h1, h2, h3⟩ := vop_ok hc.types hr h
      have hdo : Does P c.n F0 w0 σ a w (some d) o.op (fun q => ∃ id ∈ mods c.pm s o.op, OfId σ id q) (s.tput d x) := does_run (σ' := σ) (S' := S) (v := v) (fun o' ho' => h3 w (.inr agree_refl) o' ho') (hr.tput (by rw [hdst] at hd; simpa [dstOk] using hd) h2) (Fr.refl _ _) fun _ _ => rfl
      intro o' K Q ho hod hK
      exact hdo o' K Q ho hod fun a' w' σ' S' g1 g2 g3 => hK _ a' w' σ' S' h1 g1 g2 g3
  | false => rw [hst] at h; exact wop_ok hc hr hd h
/-- What a guard sees. -/
theorem guard_val (hr : Rel c.n F0 w0 σ S s a w) {ops : Array Oper} {j d : Nat} (hs : slotOf ops.toList j = some d) {x : AV} (hx : get s.t d = some x) : ∃ v, a.tmps[d]? = some v ∧ RepV w S σ x v ∧ yielded ops a.tmps j = (match v with | .bool b => some b | _ => none) := by
  obtain ⟨v, hv, hrv⟩ := hr.slots d x hx
  refine ⟨v, hv, hrv, ?_⟩
  unfold slotOf at hs
  have hj : (ops[j]?).bind (·.dst) = some d := by
    cases hq : ops.toList[j]? with
    | none => rw [hq] at hs; cases hs
    | some o =>
      rw [hq] at hs
      have : ops[j]? = some o := by simpa using hq
      rw [this]
      exact hs
  unfold yielded
  rw [hj]
  simp only [Option.bind_some, hv]
  cases v <;> rfl
theorem aval_tput {d : Nat} {x : AV} (h : get s.t d = some x) (y : Operand) : aval (s.tput d x) y = aval s y := by
  cases y with
  | tmp t =>
    simp only [aval, AS.tput, get_put]
    by_cases e : d = t
    · subst e; rw [if_pos rfl, h]
    · rw [if_neg e]
  | _ => rfl
theorem avalL_tput {d : Nat} {x : AV} (h : get s.t d = some x) : ∀ l, avalL (s.tput d x) l = avalL s l
  | [] => rfl
  | y :: l => by simp only [avalL, aval_tput h, avalL_tput h l]
theorem mods_tput {d : Nat} {x : AV} (h : get s.t d = some x) {pm : FuncId → Option Pm} {op : Op} : mods pm (s.tput d x) op = mods pm s op := by
  cases op <;> simp only [mods, modsStore, modsConv, aval_tput h, avalL_tput h]
/-- One operation, with its guard. -/
theorem opG_ok (hc : COk P c) (hr : Rel c.n F0 w0 σ S s a w) {ops : Array Oper} {o : Oper} {k : AS → Prop} (h : opG c ops.toList s o k) :
    ∀ (Q : Exit → Act → World → Prop) (rest : List Oper), (∀ s' a' w' σ' S', k s' → Rel c.n F0 w0 σ' S' s' a' w' → Fr (fun q => ∃ id ∈ mods c.pm s o.op, OfId σ id q) w w' → (∀ id, o.dst ≠ some id → σ' id = σ id) → wpList P ops Q rest a' w') → wpList P ops Q (o :: rest) a w := by
  unfold opG at h
  cases hd : dstOk c.n o.dst with
  | false => rw [hd] at h; cases h
  | true =>
    rw [hd] at h
    simp only at h
    -- the operation runs
    have runs : ∀ (s1 : AS), Rel c.n F0 w0 σ S s1 a w → mods c.pm s1 o.op = mods c.pm s o.op → Region.wanted o (yielded ops a.tmps) = true → op1 c s1 o k →
        ∀ (Q : Exit → Act → World → Prop) (rest : List Oper), (∀ s' a' w' σ' S', k s' → Rel c.n F0 w0 σ' S' s' a' w' → Fr (fun q => ∃ id ∈ mods c.pm s o.op, OfId σ id q) w w' → (∀ id, o.dst ≠ some id → σ' id = σ id) → wpList P ops Q rest a' w') → wpList P ops Q (o :: rest) a w := by
      intro s1 hr1 hm hw h1
      have h3 := op1_ok hc hr1 hd h1
      intro Q rest hK
      unfold wpList
      rw [if_pos hw]
      rw [hm] at h3
      exact .inl (h3 o _ Q rfl rfl hK)
    have skips : ∀ (s1 : AS), Rel c.n F0 w0 σ S s1 a w → Region.wanted o (yielded ops a.tmps) = false → k (s1.dst o.dst .undef) →
        ∀ (Q : Exit → Act → World → Prop) (rest : List Oper), (∀ s' a' w' σ' S', k s' → Rel c.n F0 w0 σ' S' s' a' w' → Fr (fun q => ∃ id ∈ mods c.pm s o.op, OfId σ id q) w w' → (∀ id, o.dst ≠ some id → σ' id = σ id) → wpList P ops Q rest a' w') → wpList P ops Q (o :: rest) a w := by
      intro s1 hr1 hw h1
      intro Q rest hK
      unfold wpList
      rw [if_neg (by rw [hw]; simp)]
      exact hK _ _ _ σ S h1 (hr1.dput hd rfl) (Fr.refl _ _) fun _ _ => rfl
    cases hg : o.guard with
    | none =>
      rw [hg] at h
      exact runs s hr rfl (by simp [Region.wanted, hg]) h
    | some jw =>
      obtain ⟨j, want⟩ := jw
      rw [hg] at h
      simp only at h
      cases hs : slotOf ops.toList j with
      | none => rw [hs] at h; cases h
      | some d =>
        rw [hs] at h
        simp only at h
        cases hx : get s.t d with
        | none => rw [hx] at h; cases h
        | some x =>
          rw [hx] at h
          obtain ⟨v, hv, hrv, hy⟩ := guard_val hr hs hx
          cases x with
          | bool b =>
            have hb := Rep1.bool hrv
            subst hb
            simp only at hy
            have hr1 : Rel c.n F0 w0 σ S (s.tput d (.bool b)) a w := hr.tset hv hrv
            have hm1 := mods_tput (pm := c.pm) (op := o.op) hx
            have hwt : Region.wanted o (yielded ops a.tmps) = (b == want) := by
              simp only [Region.wanted, hg, hy]
              cases b <;> cases want <;> rfl
            cases b with
            | true =>
              simp only [br] at h
              cases want with
              | true => exact runs _ hr1 hm1 (by rw [hwt]; rfl) h
              | false => exact skips _ hr1 (by rw [hwt]; rfl) h
            | false =>
              simp only [br] at h
              cases want with
              | true => exact skips _ hr1 (by rw [hwt]; rfl) h
              | false => exact runs _ hr1 hm1 (by rw [hwt]; rfl) h
          | undef =>
            have hv' : v = undef := hrv
            subst hv'
            simp only at h
            refine skips s hr ?_ h
            simp only [Region.wanted, hg, hy]
            rfl
          | _ => simp at h
/-- Operations one after another. -/
theorem opsG_ok (hc : COk P c) {ops : Array Oper} {Q : Exit → Act → World → Prop} : ∀ (l : List Oper) {s : AS} {a : Act} {w : World} {σ : Sg} {S : Nat → Prop} {k : AS → Prop}, Rel c.n F0 w0 σ S s a w → opsG c ops.toList l s k →
    (∀ s' a' w' σ' S', k s' → Rel c.n F0 w0 σ' S' s' a' w' → Q .normal a' w') → wpList P ops Q l a w
  | [], s, a, w, σ, S, k, hr, h, hQ => hQ _ _ _ σ S h hr
  | o :: l, s, a, w, σ, S, k, hr, h, hQ => by
    simp only [opsG] at h
    exact opG_ok hc hr h Q l fun s1 a' w' σ' S' h1 hr' _ _ => opsG_ok hc l hr' h1 hQ

/-! ### a region that draws its order -/
theorem agree_ext {F : Nat → Prop} (hr : Rel c.n F0 w0 σ S s a w) (hS : ∀ b, F b → ¬ S b) (hO : ∀ id e m g, get s.h id = some e → real e = true → σ id = some m → m.g = some g → ¬ F g) (hx : Ext F w w') : Agree S σ s.h w w' :=
  ⟨fun b hb => hx.block b (hr.Sold b hb) fun hf => hS b hf hb, fun id e m g h1 hre h2 h3 => by
    obtain ⟨m', hm', hen⟩ := hr.ents id e h1
    rw [h2] at hm'
    cases hm'
    exact hx.block g (hen.lt h3) (hO id e m g h1 hre h2 h3)⟩
def allPure (l : List Oper) : Bool := l.all fun o => pureOp o.op
theorem allPure_cons {o : Oper} {l : List Oper} (h : allPure (o :: l) = true) : pureOp o.op = true ∧ allPure l = true := by
  simpa [allPure] using h
theorem pureN_eq (ops : Array Oper) (l : List Nat) : pureN ops l = allPure (l.map (opAt ops)) := by
  simp [pureN, allPure, List.all_map, Function.comp_def]
/-- Steady operations, in every world that extends this one. -/
theorem stills_ok (hc : COk P c) {ops : Array Oper} {F : Nat → Prop} : ∀ (l : List Oper) {s : AS} {a : Act} {k : AS → Prop}, allSteady c.Γ l = true → Rel c.n F0 w0 σ S s a w → (∀ b, F b → ¬ S b) →
    (∀ id e m g, get s.h id = some e → real e = true → σ id = some m → m.g = some g → ¬ F g) → opsG c ops.toList l s k →
    ∃ s' A, k s' ∧ Rel c.n F0 w0 σ S s' A w ∧ s'.h = s.h ∧ ∀ w', (allPure l = true ∨ Ext F w w') → wpStill P ops w' (fun a' => a' = A) l a
  | [], s, a, k, _, hr, _, _, h => ⟨s, a, h, hr, rfl, fun _ _ => rfl⟩
  | o :: l, s, a, k, hst, hr, hS, hO, h => by
    simp only [opsG] at h
    simp only [allSteady] at hst
    cases hso : steady c.Γ o.op with
    | false => rw [hso] at hst; cases hst
    | true =>
      rw [hso] at hst
      unfold opG at h
      cases hd : dstOk c.n o.dst with
      | false => rw [hd] at h; cases h
      | true =>
        rw [hd] at h
        simp only at h
        have runs : ∀ (s1 : AS), Rel c.n F0 w0 σ S s1 a w → s1.h = s.h → Region.wanted o (yielded ops a.tmps) = true → op1 c s1 o (fun s => opsG c ops.toList l s k) →
            ∃ s' A, k s' ∧ Rel c.n F0 w0 σ S s' A w ∧ s'.h = s.h ∧ ∀ w', (allPure (o :: l) = true ∨ Ext F w w') → wpStill P ops w' (fun a' => a' = A) (o :: l) a := by
          intro s1 hr1 hh hw h1
          unfold op1 at h1
          rw [hso] at h1
          cases hdst : o.dst with
          | none => rw [hdst] at h1; simp at h1
          | some d =>
            rw [hdst] at h1
            simp only at h1
            obtain ⟨x, v, g1, g2, g3⟩ := vop_ok hc.types hr1 h1
            have hr2 := hr1.tput (d := d) (by rw [hdst] at hd; simpa [dstOk] using hd) g2
            obtain ⟨s', A, q1, q2, q3, q4⟩ := stills_ok hc l hst hr2 hS (fun id e m g he => hO id e m g (by rw [← hh]; exact he)) g1
            refine ⟨s', A, q1, q2, q3.trans hh, fun w' hx => ?_⟩
            have hag : pureOp o.op = true ∨ Agree S σ s1.h w w' := by
              rcases hx with hx | hx
              · exact .inl (allPure_cons hx).1
              · exact .inr (agree_ext hr1 hS (fun id e m g he => hO id e m g (by rw [← hh]; exact he)) hx)
            have hx' : allPure l = true ∨ Ext F w w' := by
              rcases hx with hx | hx
              · exact .inl (allPure_cons hx).2
              · exact .inr hx
            unfold wpStill
            rw [if_pos hw]
            unfold Oper.still
            rw [g3 w' hag o rfl]
            exact ⟨rfl, by rw [hdst]; exact q4 w' hx'⟩
        have skips : ∀ (s1 : AS), Rel c.n F0 w0 σ S s1 a w → s1.h = s.h → Region.wanted o (yielded ops a.tmps) = false → opsG c ops.toList l (s1.dst o.dst .undef) k →
            ∃ s' A, k s' ∧ Rel c.n F0 w0 σ S s' A w ∧ s'.h = s.h ∧ ∀ w', (allPure (o :: l) = true ∨ Ext F w w') → wpStill P ops w' (fun a' => a' = A) (o :: l) a := by
          intro s1 hr1 hh hw h1
          have hr2 : Rel c.n F0 w0 σ S (s1.dst o.dst .undef) (a.put o.dst undef) w := hr1.dput hd rfl
          have hh2 : (s1.dst o.dst .undef).h = s.h := by cases o.dst <;> exact hh
          obtain ⟨s', A, q1, q2, q3, q4⟩ := stills_ok hc l hst hr2 hS (fun id e m g he => hO id e m g (by rw [← hh2]; exact he)) h1
          refine ⟨s', A, q1, q2, q3.trans hh2, fun w' hx => ?_⟩
          have hx' : allPure l = true ∨ Ext F w w' := by
            rcases hx with hx | hx
            · exact .inl (allPure_cons hx).2
            · exact .inr hx
          unfold wpStill
          rw [if_neg (by rw [hw]; simp)]
          exact q4 w' hx'
        cases hg : o.guard with
        | none =>
          rw [hg] at h
          exact runs s hr rfl (by simp [Region.wanted, hg]) h
        | some jw =>
          obtain ⟨j, want⟩ := jw
          rw [hg] at h
          simp only at h
          cases hs : slotOf ops.toList j with
          | none => rw [hs] at h; cases h
          | some d =>
            rw [hs] at h
            simp only at h
            cases hx : get s.t d with
            | none => rw [hx] at h; cases h
            | some x =>
              rw [hx] at h
              obtain ⟨v, hv, hrv, hy⟩ := guard_val hr hs hx
              cases x with
              | bool b =>
                have hb := Rep1.bool hrv
                subst hb
                simp only at hy
                have hr1 : Rel c.n F0 w0 σ S (s.tput d (.bool b)) a w := hr.tset hv hrv
                have hwt : Region.wanted o (yielded ops a.tmps) = (b == want) := by
                  simp only [Region.wanted, hg, hy]
                  cases b <;> cases want <;> rfl
                cases b with
                | true =>
                  simp only [br] at h
                  cases want with
                  | true => exact runs _ hr1 rfl (by rw [hwt]; rfl) h
                  | false => exact skips _ hr1 rfl (by rw [hwt]; rfl) h
                | false =>
                  simp only [br] at h
                  cases want with
                  | true => exact skips _ hr1 rfl (by rw [hwt]; rfl) h
                  | false => exact runs _ hr1 rfl (by rw [hwt]; rfl) h
              | undef =>
                have hv' : v = undef := hrv
                subst hv'
                simp only at h
                refine skips s hr rfl ?_ h
                simp only [Region.wanted, hg, hy]
                rfl
              | _ => simp at h
/-- The slots of one state, the memory of another. -/
theorem Rel.mix {s1 : AS} {A : Act} (h1 : Rel c.n F0 w0 σ S s1 A w) (h : Rel c.n F0 w0 σ S s a w) : Rel c.n F0 w0 σ S ⟨s1.t, s.h⟩ A w :=
  ⟨h1.small, h1.sz, h1.defers, h1.slots, h.ents, h.inj, h.apart, h.old, h.Sold, h.ent, h.mono, h.src, h.fr⟩
theorem subL_of {m : List Nat} : ∀ {l : List Nat}, subL m l = true → ∀ i ∈ l, i ∈ m
  | [], _ => by simp
  | k :: l, h => by
    simp only [subL] at h
    cases hm : mem k m with
    | false => rw [hm] at h; cases h
    | true =>
      rw [hm] at h
      intro i hi
      rcases List.mem_cons.1 hi with rfl | hi
      · exact mem_iff.1 hm
      · exact subL_of h i hi
theorem allIn_of {e : Env} : ∀ {l : List Nat}, allIn e l = true → ∀ i ∈ l, ∃ x, get e i = some x
  | [], _ => by simp
  | k :: l, h => by
    simp only [allIn] at h
    cases hm : get e k with
    | none => rw [hm] at h; cases h
    | some x =>
      rw [hm] at h
      intro i hi
      rcases List.mem_cons.1 hi with rfl | hi
      · exact ⟨x, hm⟩
      · exact allIn_of h i hi
theorem nil_of : ∀ {r : PTs}, PTs.nil? r = true → r = .nil
  | .nil, _ => rfl
theorem LinT_of {ops : Array Oper} {Q : Exit → Act → World → Prop} {F : Nat → Prop} {l : List Nat} {alts : PTs} {a : Act} {w : World} {A : Act} (h : ∀ w', (pureN ops l = true ∨ Ext F w w') → wpStill P ops w' (fun a' => a' = A) (l.map (opAt ops)) a) (h2 : LinTs P ops Q F true alts A w) : LinT P ops Q F (.node l alts) a w := by
  rw [LinT]
  exact ⟨A, h, h2⟩
theorem LinTs_ofnil {ops : Array Oper} {Q : Exit → Act → World → Prop} {F : Nat → Prop} {f : Bool} {a : Act} {w : World} (h : f = true → Q .normal a w) : LinTs P ops Q F f .nil a w := by
  rw [LinTs]
  exact h
theorem LinTs_of {ops : Array Oper} {Q : Exit → Act → World → Prop} {F : Nat → Prop} {f : Bool} {j : Nat} {flag : Bool} {t : PT} {r : PTs} {a : Act} {w : World}
    (h1 : wpList P ops (Exit.then (fun a' w' => (flag = true → Ext F w w') ∧ LinT P ops Q F t a' w') Q) [opAt ops j] a w) (h2 : LinTs P ops Q F false r a w) : LinTs P ops Q F f (.cons j flag t r) a w := by
  rw [LinTs]
  exact ⟨h1, h2⟩
mutual
theorem treeG_bare (hc : COk P c) {ops : Array Oper} {F : Nat → Prop} {Q : Exit → Act → World → Prop} : ∀ (t : PT) {s : AS} {a : Act} {w : World} {σ : Sg} {S : Nat → Prop} {k : AS → Prop}, bareT t = true →
    Rel c.n F0 w0 σ S s a w → treeG c ops.toList [] t s k →
    (∀ s' a' w' σ' S', k s' → Rel c.n F0 w0 σ' S' s' a' w' → Q .normal a' w') → LinT P ops Q F t a w
  | .node l alts, s, a, w, σ, S, k, hb, hr, h, hQ => by
    rw [treeG] at h
    cases l with
    | cons x l => simp only [bareT] at hb; cases hb
    | nil =>
      simp only [bareT] at hb
      simp only [List.map_nil, allSteady, opsG] at h
      refine LinT_of (A := a) (fun w' _ => rfl) ?_
      cases hn : PTs.nil? alts with
      | true =>
        rw [hn] at h
        rw [nil_of hn]
        exact LinTs_ofnil fun _ => hQ _ _ _ σ S h hr
      | false =>
        rw [hn] at h
        exact treesG_bare hc alts true hb hr h hQ (fun h => by rw [h] at hn; cases hn)
theorem treesG_bare (hc : COk P c) {ops : Array Oper} {F : Nat → Prop} {Q : Exit → Act → World → Prop} : ∀ (ts : PTs) (first : Bool) {s : AS} {a : Act} {w : World} {σ : Sg} {S : Nat → Prop} {k : AS → Prop}, bareTs ts = true →
    Rel c.n F0 w0 σ S s a w → treesG c ops.toList [] ts s k →
    (∀ s' a' w' σ' S', k s' → Rel c.n F0 w0 σ' S' s' a' w' → Q .normal a' w') → (ts = .nil → first = false) → LinTs P ops Q F first ts a w
  | .nil, first, s, a, w, σ, S, k, hb, hr, h, hQ, hf => LinTs_ofnil fun e => by rw [hf rfl] at e; cases e
  | .cons j flag t r, first, s, a, w, σ, S, k, hb, hr, h, hQ, hf => by
    rw [treesG] at h
    cases flag with
    | true => simp only [bareTs] at hb; cases hb
    | false =>
      simp only [bareTs] at hb
      cases hbt : bareT t with
      | false => rw [hbt] at hb; cases hb
      | true =>
        rw [hbt] at hb
        simp only at hb
        have hop : ops.toList.getD j default = opAt ops j := by simp [opAt, List.getD, Array.getD_eq_getD_getElem?]
        rw [hop] at h
        cases hok : okStep c false [] s (opAt ops j) with
        | false => rw [hok] at h; cases h
        | true =>
          rw [hok] at h
          simp only [allIn] at h
          have hX : ∀ (K : AS → Prop), opG c ops.toList s (opAt ops j) (fun s2 => treeG c ops.toList [] t s2 K) →
              (∀ s' a' w' σ' S', K s' → Rel c.n F0 w0 σ' S' s' a' w' → Q .normal a' w') →
              wpList P ops (Exit.then (fun a' w' => (false = true → Ext F w w') ∧ LinT P ops Q F t a' w') Q) [opAt ops j] a w := by
            intro K h1 hQ
            exact opG_ok hc hr h1 _ [] fun s2 a' w' σ' S' g1 hr' hfr hσ' => ⟨fun e => (by cases e), treeG_bare hc t hbt hr' g1 hQ⟩
          cases hn : PTs.nil? r with
          | true =>
            rw [hn] at h
            rw [nil_of hn]
            exact LinTs_of (hX k h hQ) (LinTs_ofnil fun e => by cases e)
          | false =>
            rw [hn] at h
            exact LinTs_of (hX k h.1 hQ) (treesG_bare hc r false hb hr (h.2 k h.1) hQ fun _ => rfl)
end
mutual
theorem treeG_ok (hc : COk P c) {ops : Array Oper} {hide : List Nat} {σ0 : Sg} {Q : Exit → Act → World → Prop} : ∀ (t : PT) {s : AS} {a : Act} {w : World} {σ : Sg} {S : Nat → Prop} {k : AS → Prop},
    Rel c.n F0 w0 σ S s a w → (∀ id ∈ hide, (∃ e, get s.h id = some e) ∧ σ id = σ0 id) → treeG c ops.toList hide t s k →
    (∀ s' a' w' σ' S', k s' → Rel c.n F0 w0 σ' S' s' a' w' → Q .normal a' w') → LinT P ops Q (fun b => ∃ id ∈ hide, OfId σ0 id b) t a w
  | .node l alts, s, a, w, σ, S, k, hr, hh, h, hQ => by
    rw [treeG] at h
    have hmap : (l.map fun i => ops.toList.getD i default) = l.map (opAt ops) := by
      apply List.map_congr_left
      intro i _
      simp [opAt, List.getD, Array.getD_eq_getD_getElem?]
    rw [hmap] at h
    cases hst : allSteady c.Γ (l.map (opAt ops)) with
    | false => rw [hst] at h; cases h
    | true =>
      rw [hst] at h
      simp only at h
      have hl : Rel c.n F0 w0 σ S ⟨s.t, shade hide s.h⟩ a w := hr.shade hide
      have hS : ∀ b, (∃ id ∈ hide, OfId σ0 id b) → ¬ S b := by
        rintro b ⟨id, hid, m, hm, hg⟩ hs
        obtain ⟨⟨e, he⟩, hσ⟩ := hh id hid
        exact hr.apart id e m b he (hσ.trans hm) hg hs
      have hO : ∀ id e m g, get (shade hide s.h) id = some e → real e = true → σ id = some m → m.g = some g → ¬ ∃ id ∈ hide, OfId σ0 id g := by
        rintro id e m g he hre hm hg ⟨id2, hid2, m2, hm2, hg2⟩
        rcases get_shade he with ⟨hne, he⟩ | ⟨_, e0, _, hs⟩
        rotate_left
        · have := shade_real hs
          rw [hre] at this
          cases this
        · obtain ⟨⟨e2, he2⟩, hσ2⟩ := hh id2 hid2
          exact hne (by rw [hr.inj id id2 e e2 m m2 g he he2 hm (hσ2.trans hm2) hg hg2]; exact hid2)
      obtain ⟨s1, A, h1, h2, h3, h4⟩ := stills_ok hc (l.map (opAt ops)) hst hl hS hO h
      have hmix := Rel.mix h2 hr
      refine LinT_of (by rw [pureN_eq]; exact h4) ?_
      cases hn : PTs.nil? alts with
      | true =>
        rw [hn] at h1
        rw [nil_of hn]
        exact LinTs_ofnil fun _ => hQ _ _ _ σ S h1 hmix
      | false =>
        rw [hn] at h1
        exact treesG_ok hc alts true hmix hh h1 hQ (fun h => by rw [h] at hn; cases hn)
theorem treesG_ok (hc : COk P c) {ops : Array Oper} {hide : List Nat} {σ0 : Sg} {Q : Exit → Act → World → Prop} : ∀ (ts : PTs) (first : Bool) {s : AS} {a : Act} {w : World} {σ : Sg} {S : Nat → Prop} {k : AS → Prop},
    Rel c.n F0 w0 σ S s a w → (∀ id ∈ hide, (∃ e, get s.h id = some e) ∧ σ id = σ0 id) → treesG c ops.toList hide ts s k →
    (∀ s' a' w' σ' S', k s' → Rel c.n F0 w0 σ' S' s' a' w' → Q .normal a' w') → (ts = .nil → first = false) → LinTs P ops Q (fun b => ∃ id ∈ hide, OfId σ0 id b) first ts a w
  | .nil, first, s, a, w, σ, S, k, hr, hh, h, hQ, hf => LinTs_ofnil fun e => by rw [hf rfl] at e; cases e
  | .cons j flag t r, first, s, a, w, σ, S, k, hr, hh, h, hQ, hf => by
    rw [treesG] at h
    have hop : ops.toList.getD j default = opAt ops j := by simp [opAt, List.getD, Array.getD_eq_getD_getElem?]
    rw [hop] at h
    cases hok : okStep c flag hide s (opAt ops j) with
    | false => rw [hok] at h; cases h
    | true =>
      rw [hok] at h
      simp only at h
      have hX : ∀ (K : AS → Prop), opG c ops.toList s (opAt ops j) (fun s2 => match allIn s2.h hide with | true => treeG c ops.toList hide t s2 K | false => match bareT t with | true => treeG c ops.toList [] t s2 K | false => False) → 
          (∀ s' a' w' σ' S', K s' → Rel c.n F0 w0 σ' S' s' a' w' → Q .normal a' w') →
          wpList P ops (Exit.then (fun a' w' => (flag = true → Ext (fun b => ∃ id ∈ hide, OfId σ0 id b) w w') ∧ LinT P ops Q (fun b => ∃ id ∈ hide, OfId σ0 id b) t a' w') Q) [opAt ops j] a w := by
        intro K h1 hQ
        have g2 := opG_ok hc hr h1
        unfold okStep at hok
        cases hnh : notHid hide (opAt ops j).dst with
        | false => rw [hnh] at hok; cases hok
        | true =>
          rw [hnh] at hok
          simp only at hok
          have hinv : ∀ (s2 : AS) (σ' : Sg), allIn s2.h hide = true → (∀ id, (opAt ops j).dst ≠ some id → σ' id = σ id) → ∀ id ∈ hide, (∃ e, get s2.h id = some e) ∧ σ' id = σ0 id := by
            intro s2 σ' hai hσ' id hid
            refine ⟨allIn_of hai id hid, (hσ' id ?_).trans (hh id hid).2⟩
            intro e
            unfold notHid at hnh
            rw [e] at hnh
            simp only [mem_iff.2 hid] at hnh
            cases hnh
          refine g2 _ [] fun s2 a' w' σ' S' g1 hr' hfr hσ' => ?_
          have hlin : LinT P ops Q (fun b => ∃ id ∈ hide, OfId σ0 id b) t a' w' := by
            cases hai : allIn s2.h hide with
            | false =>
              rw [hai] at g1
              cases hbt : bareT t with
              | false => rw [hbt] at g1; cases g1
              | true => rw [hbt] at g1; exact treeG_bare hc t hbt hr' g1 hQ
            | true =>
              rw [hai] at g1
              exact treeG_ok hc t hr' (hinv s2 σ' hai hσ') g1 hQ
          · refine ⟨?_, hlin⟩
            intro hfl
            subst hfl
            simp only at hok
            refine ⟨hfr.size, fun k hk hn => hfr.block k hk fun ⟨id, hid, m, hm, hg⟩ => hn ?_⟩
            have hidh := subL_of hok id hid
            exact ⟨id, hidh, m, ((hh id hidh).2).symm.trans hm, hg⟩
      cases hn : PTs.nil? r with
      | true =>
        rw [hn] at h
        rw [nil_of hn]
        exact LinTs_of (hX k h hQ) (LinTs_ofnil fun e => by cases e)
      | false =>
        rw [hn] at h
        exact LinTs_of (hX k h.1 hQ) (treesG_ok hc r false hr hh (h.2 k h.1) hQ fun _ => rfl)
end
end
end Go.Proofs.Ytnioiijcmdnhaaa.V
