/-
  Operations that leave memory as it is: all of them. Plain theorems; no function of the program is named here.
-/
import Derived.Test.YtnioiijcmdnhaaaVOp3
set_option linter.all false
namespace Go.Proofs.Ytnioiijcmdnhaaa.V
open Go Go.RowKit

section
variable {P : Program} {Γ : TEnv} {n : Nat} {F0 : Fx} {w0 w w' : World} {σ : Sg} {S : Nat → Prop} {s : AS} {a : Act}
variable {k : AV → Prop}
/-- Whatever the world (as far as it agrees): the operation gives v, and leaves the world. -/
def GivesO (P : Program) (S : Nat → Prop) (σ : Sg) (h : Env) (w : World) (a : Act) (op : Op) (v : Value) : Prop :=
  ∀ w', (pureOp op = true ∨ Agree S σ h w w') → ∀ o : Oper, o.op = op → (execOp a.eval o).run P w' = .ok (.value v) w'
theorem gives_run {m : Sem Value} {v : Value} {w' : World} (h : m.run P w' = .ok v w') : (do pure (Next.value (← m)) : Sem Next).run P w' = .ok (.value v) w' := by
  simp [h]
theorem optI (hr : Rel n F0 w0 σ S s a w) {x : Option Operand} {y : Option AV} {q : Option Int} (h : optAval s x = some y) (h2 : intOf? y = some q) : OI q (x.map a.eval) := by
  cases x with
  | none => simp only [optAval] at h; cases h; simp only [intOf?] at h2; cases h2; trivial
  | some z =>
    simp only [optAval] at h
    cases hz : aval s z with
    | none => rw [hz] at h; cases h
    | some y' =>
      rw [hz] at h
      cases h
      have hrz := aval_ok hr hz
      cases y' with
      | int kk m => simp only [intOf?] at h2; cases h2; obtain ⟨e, _⟩ := Rep1.int hrz; exact ⟨kk, e⟩
      | _ => simp [intOf?] at h2
theorem RepVL.nth : ∀ {l : List AV} {vs : List Value} (i : Nat) {x : AV}, RepVL w S σ l vs → V.nth l i = some x → ∃ v, vs[i]? = some v ∧ RepV0 w S σ x v
  | [], _, _, _, _, h => by simp [V.nth] at h
  | y :: l, vs, i, x, hv, h => by
    simp only [RepVL] at hv
    obtain ⟨v, vs', rfl, h1, h2⟩ := hv
    cases i with
    | zero => simp only [V.nth] at h; cases h; exact ⟨v, rfl, h1⟩
    | succ i => simp only [V.nth] at h; obtain ⟨u, hu, hr⟩ := RepVL.nth i h2 h; exact ⟨u, by simpa using hu, hr⟩
theorem RepV.of0 {x : AV} {v : Value} (h : RepV0 w S σ x v) : RepV w S σ x v := by
  cases x with
  | tup l => simp only [RepV0, Rep] at h
  | undef => simp only [RepV0, Rep] at h
  | _ => exact h
theorem vop_ok (hΓ : TOk P Γ) (hr : Rel n F0 w0 σ S s a w) {op : Op} (h : vop Γ s op k) : ∃ x v, k x ∧ RepV w S σ x v ∧ GivesO P S σ s.h w a op v := by
  have use : ∀ {m : Op → Sem Value}, (∃ x v, k x ∧ RepV w S σ x v ∧ Gives P S σ s.h w (m op) v) → (∀ o : Oper, o.op = op → execOp a.eval o = do pure (Next.value (← m op))) → pureOp op = false →
      ∃ x v, k x ∧ RepV w S σ x v ∧ GivesO P S σ s.h w a op v := by
    rintro m ⟨x, v, h1, h2, h3⟩ he hpu
    refine ⟨x, v, h1, h2, fun w' hw o ho => ?_⟩
    rcases hw with hw | hw
    · rw [hpu] at hw; cases hw
    · rw [he o ho]
      exact gives_run (h3 w' hw)
  cases op with
  | move x =>
    simp only [vop] at h
    cases hx : aval s x with
    | none => rw [hx] at h; cases h
    | some y => rw [hx] at h; exact ⟨y, _, h, aval_ok hr hx, fun w' _ o ho => by simp [execOp, ho]⟩
  | assign x =>
    simp only [vop] at h
    cases hx : aval s x with
    | none => rw [hx] at h; cases h
    | some y => rw [hx] at h; exact ⟨y, _, h, aval_ok hr hx, fun w' _ o ho => by simp [execOp, ho]⟩
  | pick c x y =>
    simp only [vop] at h
    cases hc : aval s c with
    | none => rw [hc] at h; cases h
    | some cv =>
      rw [hc] at h
      have hrc := aval_ok hr hc
      cases cv with
      | bool b =>
        have hb := Rep1.bool hrc
        cases b with
        | true =>
          simp only [br] at h
          cases hx : aval s x with
          | none => rw [hx] at h; cases h
          | some z => rw [hx] at h; exact ⟨z, _, h, aval_ok hr hx, fun w' _ o ho => by simp [execOp, ho, hb, asBool]⟩
        | false =>
          simp only [br] at h
          cases hx : aval s y with
          | none => rw [hx] at h; cases h
          | some z => rw [hx] at h; exact ⟨z, _, h, aval_ok hr hx, fun w' _ o ho => by simp [execOp, ho, hb, asBool]⟩
      | _ => simp at h
  | load t x =>
    simp only [vop] at h
    cases hx : aval s x with
    | none => rw [hx] at h; cases h
    | some y => rw [hx] at h; exact use (m := fun _ => Instr.loadAt t (a.eval x)) (load_ok hΓ hr (aval_ok hr hx) h) (fun o ho => by simp [execOp, ho]) rfl
  | nilCheck x =>
    simp only [vop] at h
    cases hx : aval s x with
    | none => rw [hx] at h; cases h
    | some y =>
      rw [hx] at h
      have hrx := aval_ok hr hx
      cases y with
      | ptr id i j =>
        have hrx' := hrx
        simp only [RepV, RepV0, Rep, List.cons.injEq, and_true] at hrx'
        obtain ⟨m, g, _, _, e⟩ := hrx'
        exact ⟨_, _, h, hrx, fun w' _ o ho => by simp [execOp, ho, e]⟩
      | _ => simp at h
  | binOp op t x y t' =>
    simp only [vop] at h
    cases hx : aval s x with
    | none => rw [hx] at h; simp at h
    | some u =>
      cases hy : aval s y with
      | none => rw [hx, hy] at h; simp at h
      | some v => rw [hx, hy] at h; exact use (m := fun _ => do eqGuard op t x y (a.eval x) (a.eval y); binOp op t (a.eval x) (a.eval y)) (bin_ok hΓ (aval_ok hr hx) (aval_ok hr hy) h) (fun o ho => by simp [execOp, ho]) rfl
  | unOp op t x =>
    simp only [vop] at h
    cases hx : aval s x with
    | none => rw [hx] at h; cases h
    | some y => rw [hx] at h; exact use (m := fun _ => Op.unary op (a.eval x)) (un_ok (aval_ok hr hx) h) (fun o ho => by simp [execOp, ho]) rfl
  | convert src dst x =>
    simp only [vop] at h
    cases hx : aval s x with
    | none => rw [hx] at h; cases h
    | some y => rw [hx] at h; exact use (m := fun _ => convert src dst (a.eval x)) (conv_ok hΓ hr (aval_ok hr hx) h) (fun o ho => by simp [execOp, ho]) rfl
  | fieldAddr t x f =>
    simp only [vop] at h
    cases hx : aval s x with
    | none => rw [hx] at h; cases h
    | some y => rw [hx] at h; exact use (m := fun _ => Instr.fieldAt t (a.eval x) f) (fld_ok hΓ (aval_ok hr hx) h) (fun o ho => by simp [execOp, ho]) rfl
  | indexAddr t x i =>
    simp only [vop] at h
    cases hx : aval s x with
    | none => rw [hx] at h; simp at h
    | some u =>
      cases hy : aval s i with
      | none => rw [hx, hy] at h; simp at h
      | some v => rw [hx, hy] at h; exact use (m := fun _ => Instr.indexAt t (a.eval x) (a.eval i)) (idx_ok hΓ hr (aval_ok hr hx) (aval_ok hr hy) h) (fun o ho => by simp [execOp, ho]) rfl
  | slice t x lo hi mx =>
    simp only [vop] at h
    cases ht : tget Γ t with
    | none => rw [ht] at h; simp at h
    | some ti =>
      have hti := hΓ t ti ht
      cases ti with
      | sl e ek =>
        cases hx : aval s x with
        | none => rw [ht, hx] at h; simp at h
        | some u =>
          rw [ht, hx] at h
          simp only at h
          cases h1 : optAval s lo with
          | none => rw [h1] at h; simp at h
          | some lo' =>
            cases h2 : optAval s hi with
            | none => rw [h1, h2] at h; simp at h
            | some hi' =>
              cases h3 : optAval s mx with
              | none => rw [h1, h2, h3] at h; simp at h
              | some mx' =>
                rw [h1, h2, h3] at h
                simp only at h
                cases g1 : intOf? lo' with
                | none => rw [g1] at h; simp at h
                | some l1 =>
                  cases g2 : intOf? hi' with
                  | none => rw [g1, g2] at h; simp at h
                  | some l2 =>
                    cases g3 : intOf? mx' with
                    | none => rw [g1, g2, g3] at h; simp at h
                    | some l3 =>
                      cases g4 : sameEK s ek u with
                      | false => rw [g1, g2, g3, g4] at h; simp at h
                      | true =>
                        rw [g1, g2, g3, g4] at h
                        obtain ⟨z, q, c1, c2, c3⟩ := cut_ok hti.1 hti.2.2 hr (aval_ok hr hx) g4 (optI hr h1 g1) (optI hr h2 g2) (optI hr h3 g3) h
                        refine ⟨z, q, c1, c2, fun w' _ o ho => ?_⟩
                        have he : execOp a.eval o = (do pure (Next.value (← Instr.sliceAt t (a.eval x) (lo.map a.eval) (hi.map a.eval) (mx.map a.eval)))) := by simp [execOp, ho]
                        rw [he]
                        exact gives_run (c3 w')
      | _ => rw [ht] at h; simp at h
  | extract x i =>
    simp only [vop] at h
    cases hx : aval s x with
    | none => rw [hx] at h; cases h
    | some y =>
      rw [hx] at h
      have hrx := aval_ok hr hx
      cases y with
      | tup l =>
        simp only at h
        cases hn : nth l i with
        | none => rw [hn] at h; cases h
        | some z =>
          rw [hn] at h
          simp only [RepV] at hrx
          obtain ⟨vs, e, hv⟩ := hrx
          obtain ⟨v, hv1, hv2⟩ := RepVL.nth i hv hn
          exact ⟨z, v, h, RepV.of0 hv2, fun w' _ o ho => by simp [execOp, ho, e, Instr.extract, hv1]⟩
      | _ => simp at h
  | build t parts =>
    simp only [vop] at h
    exact use (m := fun _ => Instr.build t (parts.map fun (i, x) => (i, a.eval x))) (build_ok hΓ hr h) (fun o ho => by simp [execOp, ho]) rfl
  | call c =>
    simp only [vop] at h
    obtain ⟨callee, args, argTypes⟩ := c
    cases callee with
    | builtin b =>
      simp only at h
      cases b with
      | len =>
        simp only at h
        cases hx : avalL s args.toList with
        | none => rw [hx] at h; simp at h
        | some ys =>
          rw [hx] at h
          obtain ⟨vs, e1, e2, e3⟩ := avalL_ok hr hx
          match ys, hl : argTypes.toList with
          | [x], [t] =>
            rw [hl] at h
            simp only at h
            cases ht : tget Γ t with
            | none => rw [ht] at h; simp at h
            | some ti =>
              have hti := hΓ t ti ht
              cases ti with
              | sl e ek =>
                cases hq : lenOf s x with
                | none => rw [ht, hq] at h; simp at h
                | some q =>
                  rw [ht, hq] at h
                  obtain ⟨v, hv, hrv⟩ := e3 0 x rfl
                  obtain ⟨A, c, rfl, hm⟩ := len_ok hr hrv hq
                  have hvs : vs = [.slice A q c] := by
                    match vs, e2, hv with
                    | [u], _, hv => simpa using hv
                  have hu : P.underlying t = some (.slice e) := hti.1
                  refine ⟨_, .int .i64 q, h, mk_int (len_in hm), fun w' _ o ho => ?_⟩
                  have ha : args.map a.eval = #[.slice A q c] := by
                    apply Array.ext'
                    rw [Array.toList_map, e1, hvs]
                  have ht' : argTypes = #[t] := by
                    apply Array.ext'
                    rw [hl]
                  simp [execOp, ho, resolve, invoke, builtin, Builtin.len_, ha, ht', run_underlying hu, goInt]
              | _ => rw [ht] at h; simp at h
          | [], _ => simp at h
          | [_], [] => rw [hl] at h; simp at h
          | [_], _ :: _ :: _ => rw [hl] at h; simp at h
          | _ :: _ :: _, _ => simp at h
      | min =>
        simp only at h
        cases hx : avalL s args.toList with
        | none => rw [hx] at h; simp at h
        | some ys =>
          rw [hx] at h
          obtain ⟨vs, e1, e2, e3⟩ := avalL_ok hr hx
          match ys with
          | .int kk x :: l =>
            simp only at h
            cases hq : minL kk x l with
            | none => rw [hq] at h; simp at h
            | some q =>
              rw [hq] at h
              have hv := repVL_of e2 (fun y hy => by rcases List.mem_cons.1 hy with rfl | hy; exact ⟨_, _, rfl⟩; exact minL_ints hq y hy) e3
              simp only [RepVL] at hv
              obtain ⟨v, vs', rfl, h1, h2⟩ := hv
              simp only [RepV0, Rep, List.cons.injEq, and_true] at h1
              obtain ⟨rfl, hin⟩ := h1
              obtain ⟨i1, i2⟩ := foldlM_min (P := P) l vs' kk x q h2 hin hq
              refine ⟨_, .int kk q, h, mk_int i1, fun w' _ o ho => ?_⟩
              have ha : (args.map a.eval).toList = .int kk x :: vs' := by rw [Array.toList_map, e1]
              simp only [execOp, ho, resolve, invoke, builtin, Builtin.min_, ha, Sem.run_bind, Sem.run_pure, Result.andThen_ok, i2 w']
          | [] => simp at h
          | .top :: _ => simp at h
          | .nil :: _ => simp at h
          | .undef :: _ => simp at h
          | .bool _ :: _ => simp at h
          | .str _ :: _ => simp at h
          | .ints _ _ _ :: _ => simp at h
          | .rs _ _ _ :: _ => simp at h
          | .gpi _ _ :: _ => simp at h
          | .gpr _ _ _ :: _ => simp at h
          | .ownf _ :: _ => simp at h
          | .own _ _ _ :: _ => simp at h
          | .ptr _ _ _ :: _ => simp at h
          | .agg _ :: _ => simp at h
          | .tup _ :: _ => simp at h
          | .lini _ _ _ :: _ => simp at h
          | .linr _ _ _ :: _ => simp at h
          | .box _ _ :: _ => simp at h
      | max =>
        simp only at h
        cases hx : avalL s args.toList with
        | none => rw [hx] at h; simp at h
        | some ys =>
          rw [hx] at h
          obtain ⟨vs, e1, e2, e3⟩ := avalL_ok hr hx
          match ys with
          | .int kk x :: l =>
            simp only at h
            cases hq : maxL kk x l with
            | none => rw [hq] at h; simp at h
            | some q =>
              rw [hq] at h
              have hv := repVL_of e2 (fun y hy => by rcases List.mem_cons.1 hy with rfl | hy; exact ⟨_, _, rfl⟩; exact maxL_ints hq y hy) e3
              simp only [RepVL] at hv
              obtain ⟨v, vs', rfl, h1, h2⟩ := hv
              simp only [RepV0, Rep, List.cons.injEq, and_true] at h1
              obtain ⟨rfl, hin⟩ := h1
              obtain ⟨i1, i2⟩ := foldlM_max (P := P) l vs' kk x q h2 hin hq
              refine ⟨_, .int kk q, h, mk_int i1, fun w' _ o ho => ?_⟩
              have ha : (args.map a.eval).toList = .int kk x :: vs' := by rw [Array.toList_map, e1]
              simp only [execOp, ho, resolve, invoke, builtin, Builtin.max_, ha, Sem.run_bind, Sem.run_pure, Result.andThen_ok, i2 w']
          | [] => simp at h
          | .top :: _ => simp at h
          | .nil :: _ => simp at h
          | .undef :: _ => simp at h
          | .bool _ :: _ => simp at h
          | .str _ :: _ => simp at h
          | .ints _ _ _ :: _ => simp at h
          | .rs _ _ _ :: _ => simp at h
          | .gpi _ _ :: _ => simp at h
          | .gpr _ _ _ :: _ => simp at h
          | .ownf _ :: _ => simp at h
          | .own _ _ _ :: _ => simp at h
          | .ptr _ _ _ :: _ => simp at h
          | .agg _ :: _ => simp at h
          | .tup _ :: _ => simp at h
          | .lini _ _ _ :: _ => simp at h
          | .linr _ _ _ :: _ => simp at h
          | .box _ _ :: _ => simp at h
      | _ => simp at h
    | _ => simp at h
  | _ => simp [vop] at h
end
end Go.Proofs.Ytnioiijcmdnhaaa.V
