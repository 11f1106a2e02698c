/-
  Operations that leave memory as it is (end): slice expressions, literals of structs, min, max, len. Plain theorems; no function of the program is named here.
-/
import Derived.Test.YtnioiijcmdnhaaaVOp2
set_option linter.all false
namespace Go.Proofs.Ytnioiijcmdnhaaa.V
open Go Go.RowKit

def OI : Option Int → Option Value → Prop
  | none, none => True
  | some m, some v => ∃ k, v = .int k m
  | _, _ => False
def lowOf (lo : Option Int) : Nat := match lo with | some l => l.toNat | none => 0
def highOf (n : Nat) (hi : Option Int) : Nat := match hi with | some h => h.toNat | none => n

section
variable {P : Program} {Γ : TEnv} {n : Nat} {F0 : Fx} {w0 w w' : World} {σ : Sg} {S : Nat → Prop} {s : AS} {a : Act}
variable {k : AV → Prop}

theorem cutB_of {q : Nat} {lo hi : Option Int} (h : cutB q lo hi = true) : (∀ l, lo = some l → 0 ≤ l) ∧ (∀ m, hi = some m → 0 ≤ m) ∧ lowOf lo ≤ highOf q hi ∧ highOf q hi ≤ q := by
  cases lo <;> cases hi <;> simp [cutB, lowOf, highOf] at h ⊢ <;> omega
theorem run_slice2 {t e : TypeId} {i : TypeInfo} (hu : P.underlying t = some (.slice e)) (hi0 : P.info? e = some i) {A : Option Addr} {len cap : Nat} (hlc : len ≤ cap) {lo hi : Option Int} {lov hiv : Option Value} (hlo : OI lo lov) (hhi : OI hi hiv) (hb : cutB len lo hi = true) (w' : World) :
    (Instr.sliceAt t (.slice A len cap) lov hiv none).run P w' = .ok (.slice (if cap = lowOf lo then A else A.map (·.add (lowOf lo * i.size))) (highOf len hi - lowOf lo) (cap - lowOf lo)) w' := by
  obtain ⟨h1, h2, h3, h4⟩ := cutB_of hb
  cases lo with
  | none =>
    cases lov with
    | some _ => exact hlo.elim
    | none =>
      cases hi with
      | none =>
        cases hiv with
        | some _ => exact hhi.elim
        | none => simp [Instr.sliceAt, Instr.slice, Instr.sliceBounds, run_underlying hu, sizeOf, typeInfo, hi0, lowOf, highOf]
      | some h =>
        cases hiv with
        | none => exact hhi.elim
        | some v =>
          obtain ⟨kh, rfl⟩ := hhi
          have g1 := h2 h rfl
          simp only [highOf] at h4
          simp [Instr.sliceAt, Instr.slice, Instr.sliceBounds, run_underlying hu, sizeOf, typeInfo, hi0, lowOf, highOf, run_sliceBound w' kh h cap _ g1 (by omega)]
  | some l =>
    cases lov with
    | none => exact hlo.elim
    | some v =>
      obtain ⟨kl, rfl⟩ := hlo
      have g0 := h1 l rfl
      cases hi with
      | none =>
        cases hiv with
        | some _ => exact hhi.elim
        | none =>
          simp only [highOf, lowOf] at h3
          simp [Instr.sliceAt, Instr.slice, Instr.sliceBounds, run_underlying hu, sizeOf, typeInfo, hi0, lowOf, highOf, run_sliceBound w' kl l len _ g0 (by omega)]
          rfl
      | some h =>
        cases hiv with
        | none => exact hhi.elim
        | some v =>
          obtain ⟨kh, rfl⟩ := hhi
          have g1 := h2 h rfl
          simp only [highOf, lowOf] at h3 h4
          simp [Instr.sliceAt, Instr.slice, Instr.sliceBounds, run_underlying hu, sizeOf, typeInfo, hi0, lowOf, highOf, run_sliceBound w' kh h cap _ g1 (by omega), run_sliceBound w' kl l h.toNat _ g0 (by omega)]
          rfl
theorem cutL_eq {α : Type} (l : List α) {lo hi : Option Int} (hb : cutB l.length lo hi = true) : cutL l lo hi = (l.drop (lowOf lo)).take (highOf l.length hi - lowOf lo) ∧ (cutL l lo hi).length = highOf l.length hi - lowOf lo := by
  obtain ⟨h1, h2, h3, h4⟩ := cutB_of hb
  cases lo with
  | none =>
    cases hi with
    | none => simp [cutL, lowOf, highOf]
    | some m => simp only [cutL, lowOf, highOf, List.drop_zero, Nat.sub_zero, List.length_take] at *; exact ⟨trivial, by omega⟩
  | some q =>
    cases hi with
    | none => simp only [cutL, lowOf, highOf, List.length_drop] at *; exact ⟨by rw [List.take_of_length_le (by simp)], trivial⟩
    | some m => simp only [cutL, lowOf, highOf, List.length_take, List.length_drop] at *; exact ⟨trivial, by omega⟩
theorem cutO_eq {id off q : Nat} {lo hi : Option Int} : cutO id off q lo hi = .own id (off + lowOf lo) (highOf q hi - lowOf lo) := by
  cases lo <;> cases hi <;> simp [cutO, lowOf, highOf]
theorem Row.cutTake {A : Option Addr} {xs : List Value} {cap lo m : Nat} (h : Row w S A xs) (hc : xs.length ≤ cap) : Row w S (if cap = lo then A else A.map (·.add (lo * 1))) ((xs.drop lo).take m) := (h.cut hc).take m
theorem cut_ok {t e : TypeId} {ek : EK} (hu : P.underlying t = some (.slice e)) (hek : EKok P e ek) (hr : Rel n F0 w0 σ S s a w) {x : AV} {u : Value} (hx : RepV w S σ x u) (hsame : sameEK s ek x = true)
    {lo hi mx : Option Int} {lov hiv mxv : Option Value} (hlo : OI lo lov) (hhi : OI hi hiv) (hmx : OI mx mxv) (h : cut s x lo hi mx k) :
    ∃ z q, k z ∧ RepV w S σ z q ∧ ∀ w', (Instr.sliceAt t u lov hiv mxv).run P w' = .ok q w' := by
  obtain ⟨i, hi0, his⟩ := ek_info hek
  unfold cut at h
  cases mx with
  | some m =>
    cases mxv with
    | none => exact hmx.elim
    | some mv =>
      obtain ⟨km, rfl⟩ := hmx
      cases lo with
      | some _ => simp at h
      | none =>
        cases lov with
        | some _ => exact hlo.elim
        | none =>
          cases hi with
          | none => simp at h
          | some hh =>
            cases hiv with
            | none => exact hhi.elim
            | some hv =>
              obtain ⟨kh, rfl⟩ := hhi
              cases x with
              | ints f kk l =>
                simp only at h
                obtain ⟨hb, h⟩ := chk_some h
                simp only [Bool.and_eq_true, decide_eq_true_eq] at hb
                obtain ⟨⟨b0, b1⟩, b2⟩ := hb
                simp only [RepV, RepV0, Rep, List.cons.injEq, and_true] at hx
                obtain ⟨A, c, rfl, hs, _⟩ := hx
                have hcap := hs.cap
                refine ⟨_, .slice A hh.toNat m.toNat, h, ?_, fun w' => ?_⟩
                · simp only [RepV, RepV0, Rep]
                  have hl : (l.take hh.toNat).length = hh.toNat := by simp; omega
                  refine ⟨A, m.toNat, by rw [hl], ⟨by omega, by have := hs.max; omega, fun q hq => hs.rng q (List.mem_of_mem_take hq), by rw [List.map_take]; exact hs.row.take _⟩, fun hf => ?_⟩
                  have : hh = m := by simpa using hf
                  omega
                · have hA : A.map (·.add 0) = A := by cases A <;> simp [Addr.add]
                  simp [Instr.sliceAt, Instr.slice, Instr.sliceBounds, run_underlying hu, sizeOf, typeInfo, hi0, run_sliceBound w' km m c _ (by omega) (by omega), run_sliceBound w' kh hh m.toNat _ b0 (by omega), hA]
              | _ => simp at h
  | none =>
    cases mxv with
    | some _ => exact hmx.elim
    | none =>
      simp only at h
      cases x with
      | nil =>
        simp only at h
        obtain ⟨hb, h⟩ := chk_some h
        simp only [RepV, RepV0, Rep, List.cons.injEq, and_true] at hx
        subst hx
        obtain ⟨h1, h2, h3, h4⟩ := cutB_of hb
        refine ⟨_, .slice none 0 0, h, by simp [RepV, RepV0, Rep], fun w' => ?_⟩
        rw [run_slice2 hu hi0 (Nat.le_refl 0) hlo hhi hb]
        have e1 : lowOf lo = 0 := by omega
        have e2 : highOf 0 hi = 0 := by omega
        simp [e1, e2]
      | ints f kk l =>
        simp only at h
        obtain ⟨hb, h⟩ := chk_some h
        simp only [RepV, RepV0, Rep, List.cons.injEq, and_true] at hx
        obtain ⟨A, c, rfl, hs, hf⟩ := hx
        have hes : i.size = 1 := by cases ek <;> simp [sameEK] at hsame; exact his
        obtain ⟨e1, e2⟩ := cutL_eq l hb
        obtain ⟨h1, h2, h3, h4⟩ := cutB_of hb
        have hcap := hs.cap
        have hmax := hs.max
        refine ⟨_, _, h, ?_, fun w' => run_slice2 hu hi0 hs.cap hlo hhi hb w'⟩
        simp only [RepV, RepV0, Rep]
        refine ⟨_, _, by rw [e2], ⟨by omega, by omega, fun q hq => hs.rng q ?_, ?_⟩, fun hk => ?_⟩
        · rw [e1] at hq; exact List.mem_of_mem_drop (List.mem_of_mem_take hq)
        · rw [e1, List.map_take, List.map_drop, hes]
          exact Row.cutTake hs.row (by simpa using hcap)
        · cases hi with
          | none => simp only [keepF] at hk; have := hf hk; simp only [highOf] at e2 h3 ⊢; omega
          | some _ => simp [keepF] at hk
      | rs f T l =>
        simp only at h
        obtain ⟨hb, h⟩ := chk_some h
        simp only [RepV, RepV0, Rep, List.cons.injEq, and_true] at hx
        obtain ⟨A, c, css, rfl, hc1, hc2, hf, hrr, hrow⟩ := hx
        have hes : i.size = esz T := by
          cases ek with
          | r T' => simp only [sameEK] at hsame; rw [beq_true hsame]; exact his
          | _ => simp [sameEK] at hsame
        obtain ⟨e1, e2⟩ := cutL_eq l hb
        obtain ⟨h1, h2, h3, h4⟩ := cutB_of hb
        refine ⟨_, _, h, ?_, fun w' => run_slice2 hu hi0 hc1 hlo hhi hb w'⟩
        simp only [RepV, RepV0, Rep]
        refine ⟨_, _, (css.drop (lowOf lo)).take (highOf l.length hi - lowOf lo), by rw [e2], by omega, by omega, fun hk => ?_, by rw [e1]; exact (hrr.drop _).take _, ?_⟩
        · cases hi with
          | none => simp only [keepF] at hk; have := hf hk; simp only [highOf] at e2 h3 ⊢; omega
          | some _ => simp [keepF] at hk
        · rw [← flat_take (esz T) _ _ (fun cs hcs => hrr.es cs (List.mem_of_mem_drop hcs)), ← flat_drop (esz T) _ _ hrr.es, hes]
          refine Row.take (Row.cutN (esz T) hrow ?_) _
          rw [flat_len (esz T) css hrr.es, hrr.len]
          exact Nat.mul_le_mul_right _ hc1
      | ownf id =>
        simp only at h
        cases he : get s.h id with
        | none => rw [he] at h; cases h
        | some en =>
          rw [he] at h
          simp only at h
          simp only [sameEK, he] at hsame
          cases hln : entLen en with
          | none => rw [hln] at h; cases h
          | some q =>
            rw [hln] at h
            simp only at h
            simp only [RepV, RepV0, Rep, List.cons.injEq, and_true] at hx
            obtain ⟨mb, hm, rfl⟩ := hx
            obtain ⟨mb', hm', hen⟩ := hr.ents id _ he
            rw [hm] at hm'
            cases hm'
            have hq := entLen_ok hen hln
            subst hq
            have hee := entEs_ok hen
            have hnc := ent_cap hen
            have hes : i.size = mb.es := by rw [hee, beq_true hsame]; exact his
            have fin : ∀ hb : cutB mb.n lo hi = true, ∀ z, z = cutO id 0 mb.n lo hi → k z → ∃ z q, k z ∧ RepV w S σ z q ∧ ∀ w', (Instr.sliceAt t (.slice (mb.addr 0) mb.n mb.cap) lov hiv none).run P w' = .ok q w' := by
              intro hb z hz hk
              obtain ⟨h1, h2, h3, h4⟩ := cutB_of hb
              refine ⟨z, _, hk, ?_, fun w' => run_slice2 hu hi0 hnc.1 hlo hhi hb w'⟩
              rw [hz, cutO_eq]
              simp only [RepV, RepV0, Rep]
              refine ⟨mb, _, hm, by rw [Nat.zero_add], by omega, fun h0 => ?_⟩
              rw [if_neg (by omega), hes]
              cases hg : mb.g <;> simp [Mb.addr, hg, Addr.add_lit]
            cases lo with
            | none =>
              cases hi with
              | none =>
                refine ⟨_, .slice (mb.addr 0) mb.n mb.cap, h, by simp only [RepV, RepV0, Rep]; exact ⟨mb, hm, rfl⟩, fun w' => ?_⟩
                rw [run_slice2 hu hi0 hnc.1 hlo hhi (by rfl)]
                have hA : (if mb.cap = lowOf none then mb.addr 0 else (mb.addr 0).map (·.add (lowOf none * i.size))) = mb.addr 0 := by
                  split
                  · rfl
                  · cases hg : mb.g <;> simp [Mb.addr, hg, lowOf, Addr.add_lit]
                rw [hA]
                rfl
              | some _ => obtain ⟨hb, h⟩ := chk_some h; exact fin hb _ rfl h
            | some _ =>
              cases hi with
              | none => obtain ⟨hb, h⟩ := chk_some h; exact fin hb _ rfl h
              | some _ => obtain ⟨hb, h⟩ := chk_some h; exact fin hb _ rfl h
      | own id off len =>
        simp only at h
        obtain ⟨hb, h⟩ := chk_some h
        cases he : get s.h id with
        | none => simp [sameEK, he] at hsame
        | some en =>
          simp only [sameEK, he] at hsame
          simp only [RepV, RepV0, Rep, List.cons.injEq, and_true] at hx
          obtain ⟨mb, A, hm, rfl, hol, hA⟩ := hx
          obtain ⟨mb', hm', hen⟩ := hr.ents id _ he
          rw [hm] at hm'
          cases hm'
          have hee := entEs_ok hen
          have hnc := ent_cap hen
          have hes : i.size = mb.es := by rw [hee, beq_true hsame]; exact his
          obtain ⟨h1, h2, h3, h4⟩ := cutB_of hb
          refine ⟨_, _, h, ?_, fun w' => run_slice2 hu hi0 (by omega) hlo hhi hb w'⟩
          rw [cutO_eq]
          simp only [RepV, RepV0, Rep]
          refine ⟨mb, _, hm, by rw [Nat.sub_sub], by omega, fun h0 => ?_⟩
          rw [if_neg (by omega), hes, hA (by omega)]
          cases hg : mb.g <;> simp [Mb.addr, hg, Addr.add_lit, Nat.add_mul]
      | _ => simp at h

/-! ### literals of structs -/
theorem RepL.set : ∀ (l : List AV) (css : List (List Value)) (j : Nat) {x : AV} {cs : List Value}, RepL w S σ l css → Rep w S σ x cs → RepL w S σ (setV l j x) (css.set j cs)
  | [], css, j, _, _, h, _ => by simp only [RepL] at h; subst h; simp [setV, RepL]
  | y :: l, css, j, x, cs, h, hx => by
    simp only [RepL] at h
    obtain ⟨c0, css', rfl, h1, h2⟩ := h
    cases j with
    | zero => simp only [setV, List.set_cons_zero, RepL]; exact ⟨cs, css', rfl, hx, h2⟩
    | succ j => simp only [setV, List.set_cons_succ, RepL]; exact ⟨c0, css'.set j cs, rfl, h1, RepL.set l css' j h2 hx⟩
/-- cs written over vs from place j on. -/
def over (vs : List Value) : Nat → List Value → List Value
  | _, [] => vs
  | j, c :: cs => over (vs.set j c) (j + 1) cs
theorem RepL.setAt : ∀ (xs : List AV) (us : List Value) (l : List AV) (vs : List Value) (j : Nat), RepL w S σ l (vs.map ([·])) → RepL w S σ xs (us.map ([·])) → RepL w S σ (V.setAt l j xs) ((over vs j us).map ([·]))
  | [], us, l, vs, j, h, hx => by
    have : us = [] := by simp only [RepL] at hx; simpa using hx
    subst this
    exact h
  | x :: xs, us, l, vs, j, h, hx => by
    simp only [RepL] at hx
    obtain ⟨cs, css', e, h1, h2⟩ := hx
    cases us with
    | nil => simp at e
    | cons u us =>
      simp only [List.map_cons, List.cons.injEq] at e
      obtain ⟨rfl, rfl⟩ := e
      simp only [V.setAt, over]
      refine RepL.setAt xs us (setV l j x) (vs.set j u) (j + 1) ?_ h2
      rw [List.map_set]
      exact RepL.set _ _ j h h1
theorem over_foldL : ∀ (us : List Value) (vs : List Value) (off j : Nat), (us.zipIdx j).foldl (fun (cs : Array Value) (p : Value × Nat) => cs.setIfInBounds (off + p.2) p.1) vs.toArray = (over vs (off + j) us).toArray
  | [], vs, off, j => by simp [over]
  | u :: us, vs, off, j => by
    have := over_foldL us (vs.set (off + j) u) off (j + 1)
    simp only [over]
    rw [← Nat.add_assoc] at this
    rw [← this]
    simp [List.zipIdx_cons]
theorem over_fold (us vs : List Value) (off : Nat) : us.toArray.zipIdx.foldl (fun (cs : Array Value) (p : Value × Nat) => cs.setIfInBounds (off + p.2) p.1) vs.toArray = (over vs off us).toArray := by
  rw [← Array.foldl_toList]
  have := over_foldL us vs off 0
  simpa using this
theorem over_length : ∀ (us vs : List Value) (j : Nat), (over vs j us).length = vs.length
  | [], vs, j => rfl
  | u :: us, vs, j => by simp only [over]; rw [over_length us]; simp
theorem Rep.cell {x : AV} {cs : List Value} (h : Rep w S σ x cs) (hx : isCell x = true) : ∃ v, cs = [v] ∧ v.cells = #[v] ∧ v.oneCell' = true := by
  cases x with
  | agg l => simp [isCell] at hx
  | top => simp only [Rep] at h; obtain ⟨v, rfl, h1⟩ := h; exact ⟨v, rfl, by cases v <;> first | rfl | simp [Value.oneCell'] at h1, h1⟩
  | nil => simp only [Rep] at h; exact ⟨_, h, rfl, rfl⟩
  | bool b => simp only [Rep] at h; exact ⟨_, h, rfl, rfl⟩
  | int k m => simp only [Rep] at h; exact ⟨_, h.1, rfl, rfl⟩
  | str l => simp only [Rep] at h; obtain ⟨s, h1, _⟩ := h; exact ⟨_, h1, rfl, rfl⟩
  | ints f k l => simp only [Rep] at h; obtain ⟨A, c, h1, _⟩ := h; exact ⟨_, h1, rfl, rfl⟩
  | rs f T l => simp only [Rep] at h; obtain ⟨A, c, css, h1, _⟩ := h; exact ⟨_, h1, rfl, rfl⟩
  | gpi k m => simp only [Rep] at h; obtain ⟨b, o, h1, _⟩ := h; exact ⟨_, h1, rfl, rfl⟩
  | gpr T r j => simp only [Rep] at h; obtain ⟨b, o, vs, h1, _⟩ := h; exact ⟨_, h1, rfl, rfl⟩
  | ownf id => simp only [Rep] at h; obtain ⟨m, _, h1⟩ := h; exact ⟨_, h1, rfl, rfl⟩
  | fn f c =>
    simp only [Rep] at h
    cases c with
    | none => exact ⟨_, h, rfl, rfl⟩
    | some l => obtain ⟨b, off, A, c, h1, _⟩ := h; exact ⟨_, h1, rfl, rfl⟩
  | own id o l => simp only [Rep] at h; obtain ⟨m, A, _, h1, _⟩ := h; exact ⟨_, h1, rfl, rfl⟩
  | ptr id i j => simp only [Rep] at h; obtain ⟨m, g, _, _, h1⟩ := h; exact ⟨_, h1, rfl, rfl⟩
  | _ => simp only [Rep] at h
theorem RepL.cells : ∀ {l : List AV} {css : List (List Value)}, RepL w S σ l css → allCell l = true → ∃ us : List Value, css = us.map ([·]) ∧ ∀ u ∈ us, u.oneCell' = true
  | [], css, h, _ => by simp only [RepL] at h; subst h; exact ⟨[], rfl, by simp⟩
  | x :: l, css, h, hc => by
    simp only [RepL] at h
    obtain ⟨cs, css', rfl, h1, h2⟩ := h
    simp only [allCell] at hc
    cases hx : isCell x with
    | false => rw [hx] at hc; cases hc
    | true =>
      rw [hx] at hc
      obtain ⟨v, rfl, _, hv⟩ := h1.cell hx
      obtain ⟨us, rfl, hus⟩ := RepL.cells h2 hc
      exact ⟨v :: us, rfl, fun u hu => by rcases List.mem_cons.1 hu with rfl | hu; exact hv; exact hus u hu⟩
/-- The cells of a value. -/
theorem cells_ok {x : AV} {v : Value} (h : RepV w S σ x v) (hf : flat x = true) : ∃ us : List Value, v.cells = us.toArray ∧ RepL w S σ (cellsOf x) (us.map ([·])) ∧ (∀ u ∈ us, u.oneCell' = true) ∧ us.length = cnt (cellsOf x) ∧ (isCell x = true → us = [v]) := by
  have one : ∀ y : AV, isCell y = true → Rep w S σ y [v] → cellsOf y = [y] → ∃ us : List Value, v.cells = us.toArray ∧ RepL w S σ (cellsOf y) (us.map ([·])) ∧ (∀ u ∈ us, u.oneCell' = true) ∧ us.length = cnt (cellsOf y) ∧ (isCell y = true → us = [v]) := by
    intro y hy hr hc
    obtain ⟨u, e, h1, h2⟩ := hr.cell hy
    simp only [List.cons.injEq, and_true] at e
    subst e
    refine ⟨[v], h1, ?_, by simpa using h2, by rw [hc]; rfl, fun _ => rfl⟩
    rw [hc]
    simp only [List.map_cons, List.map_nil, RepL]
    exact ⟨_, _, rfl, hr, rfl⟩
  cases x with
  | agg l =>
    simp only [RepV, RepV0, Rep] at h
    obtain ⟨cs, rfl, css, h1, rfl⟩ := h
    obtain ⟨us, rfl, hus⟩ := RepL.cells h1 hf
    rw [flat_singles]
    refine ⟨us, rfl, h1, hus, ?_, fun h => by simp [isCell] at h⟩
    have := RepL.length h1
    simpa [cellsOf] using this
  | tup l => simp [flat] at hf
  | undef => simp [flat] at hf
  | _ => exact one _ rfl h rfl
theorem fits_of {v : AV} {q : Nat} (h : fits v q = true) : flat v = true ∧ cnt (cellsOf v) = q := by
  unfold fits at h
  cases hf : flat v with
  | false => rw [hf] at h; cases h
  | true => rw [hf] at h; exact ⟨rfl, beq_true h⟩
theorem parts_ok (hr : Rel n F0 w0 σ S s a w) : ∀ {ps : List (Nat × Operand)} {qs : List (Nat × AV)}, partsOf s ps = some qs →
    ∃ vs : List Value, vs.length = qs.length ∧ (ps.map fun p => (p.1, a.eval p.2)) = (qs.map (·.1)).zip vs ∧ ∀ (i : Nat) (q : Nat × AV), qs[i]? = some q → ∃ v, vs[i]? = some v ∧ RepV w S σ q.2 v
  | [], qs, h => by simp only [partsOf] at h; cases h; exact ⟨[], rfl, rfl, by simp⟩
  | (i, x) :: ps, qs, h => by
    simp only [partsOf] at h
    cases hx : aval s x with
    | none => rw [hx] at h; cases h
    | some y =>
      rw [hx] at h
      simp only at h
      cases hp : partsOf s ps with
      | none => rw [hp] at h; cases h
      | some r =>
        rw [hp] at h
        cases h
        obtain ⟨vs, h1, h2, h3⟩ := parts_ok hr hp
        refine ⟨a.eval x :: vs, by simp [h1], by simp [h2], fun j q hq => ?_⟩
        cases j with
        | zero => simp at hq; subst hq; exact ⟨_, rfl, aval_ok hr hx⟩
        | succ j => obtain ⟨v, hv, hrv⟩ := h3 j q (by simpa using hq); exact ⟨v, by simpa using hv, hrv⟩
theorem fill_ok {place : Nat → Option (Nat × Nat)} {pl : Nat → Option (Nat × Nat)} (hp : ∀ i q, place i = some q → pl i = some q) :
    ∀ {qs : List (Nat × AV)} {vs : List Value} {l l' : List AV} {cs : List Value}, vs.length = qs.length → (∀ (i : Nat) (q : Nat × AV), qs[i]? = some q → ∃ v, vs[i]? = some v ∧ RepV w S σ q.2 v) →
      RepL w S σ l (cs.map ([·])) → fillAt place l qs = some l' → ∃ cs' : List Value, Instr.fill pl cs.toArray ((qs.map (·.1)).zip vs) = some cs'.toArray ∧ RepL w S σ l' (cs'.map ([·])) ∧ cs'.length = cs.length
  | [], vs, l, l', cs, hl, _, hr, h => by
    simp only [fillAt] at h
    cases h
    exact ⟨cs, by simp [Instr.fill], hr, rfl⟩
  | (i, x) :: qs, [], l, l', cs, hl, _, hr, h => by simp at hl
  | (i, x) :: qs, v :: vs, l, l', cs, hl, hq, hr, h => by
    simp only [fillAt] at h
    cases hpl : place i with
    | none => rw [hpl] at h; cases h
    | some os =>
      obtain ⟨off, size⟩ := os
      rw [hpl] at h
      simp only at h
      cases hfit : fits x size with
      | false => rw [hfit] at h; simp at h
      | true =>
        cases hble : Nat.ble (off + cnt (cellsOf x)) (cnt l) with
        | false => rw [hfit, hble] at h; simp at h
        | true =>
          rw [hfit, hble] at h
          obtain ⟨hf, hcn⟩ := fits_of hfit
          obtain ⟨v', hv', hrv⟩ := hq 0 _ rfl
          simp only [List.getElem?_cons_zero, Option.some.injEq] at hv'
          subst hv'
          obtain ⟨us, hu1, hu2, _, hu4, _⟩ := cells_ok hrv hf
          simp only at hu4 hu2
          have hle : off + cnt (cellsOf x) ≤ cnt l := Nat.le_of_ble_eq_true hble
          have hlen := RepL.length hr
          simp at hlen
          obtain ⟨cs', h1, h2, h3⟩ := fill_ok hp (vs := vs) (cs := over cs off us) (by simpa using hl) (fun j q hj => by
            obtain ⟨u, hu, hru⟩ := hq (j + 1) q (by simpa using hj)
            exact ⟨u, by simpa using hu, hru⟩) (RepL.setAt _ us _ _ off hr hu2) h
          refine ⟨cs', ?_, h2, by rw [h3, over_length]⟩
          simp only [List.map_cons, List.zip_cons_cons, Instr.fill, hp i _ hpl, hu1]
          rw [if_neg (by simp; omega), over_fold]
          exact h1
theorem build_ok (hΓ : TOk P Γ) (hr : Rel n F0 w0 σ S s a w) {t : TypeId} {ps : Array (Nat × Operand)} (h : build Γ s t ps.toList k) :
    ∃ z q, k z ∧ RepV w S σ z q ∧ Gives P S σ s.h w (Instr.build t (ps.map fun (i, x) => (i, a.eval x))) q := by
  unfold build at h
  cases ht : tget Γ t with
  | none => rw [ht] at h; simp at h
  | some ti =>
    have hti := hΓ t ti ht
    cases hpp : partsOf s ps.toList with
    | none => rw [ht, hpp] at h; cases ti <;> simp at h
    | some qs =>
      rw [ht, hpp] at h
      obtain ⟨vs, p1, p2, p3⟩ := parts_ok hr hpp
      have hpl : (ps.map fun (i, x) => (i, a.eval x)).toList = (qs.map (·.1)).zip vs := by
        rw [← p2]
        simp
      cases ti with
      | st offs z =>
        simp only at h
        obtain ⟨fields, i, zv, hu, hi, hsz, hz, hzr, hlen, hf⟩ := hti
        cases hfl : fillAt (offs[·]?) z qs with
        | none => rw [hfl] at h; cases h
        | some l =>
          rw [hfl] at h
          obtain ⟨cs', h1, h2, h3⟩ := fill_ok (pl := (offs.toArray[·]?)) (fun i o ho => by simpa using ho) p1 p3 (hzr w S σ) hfl
          refine ⟨_, .agg cs'.toArray, h, ?_, fun w' _ => ?_⟩
          · simp only [RepV, RepV0, Rep]
            exact ⟨cs', rfl, _, h2, (flat_singles _).symm⟩
          · refine run_build w' t _ _ ?_
            simp only [Program.built, hi, hu, hz, hlen, hpl, Value.cells]
            exact h1
      | ar q z =>
        simp only at h
        obtain ⟨e, i, j, zv, hu, hi, hsz, hz, hzr, hj, hjs⟩ := hti
        cases hfl : fillAt (arPlace q) z qs with
        | none => rw [hfl] at h; cases h
        | some l =>
          rw [hfl] at h
          obtain ⟨cs', h1, h2, h3⟩ := fill_ok (pl := fun i => some (i * 1, 1)) (fun i o ho => by
            unfold arPlace at ho
            cases hb : Nat.ble q i with
            | true => rw [hb] at ho; cases ho
            | false => rw [hb] at ho; simpa using ho) p1 p3 (hzr w S σ) hfl
          refine ⟨_, .agg cs'.toArray, h, ?_, fun w' _ => ?_⟩
          · simp only [RepV, RepV0, Rep]
            exact ⟨cs', rfl, _, h2, (flat_singles _).symm⟩
          · refine run_build w' t _ _ ?_
            simp only [Program.built, hi, hu, hz, hj, hjs, hpl, Value.cells]
            exact h1
      | _ => simp at h

/-! ### min, max, len -/
theorem foldlM_min : ∀ (l : List AV) (vs : List Value) (kk : IntKind) (x q : Int), RepVL w S σ l vs → inK kk x = true → minL kk x l = some q → inK kk q = true ∧ ∀ w', (vs.foldlM Builtin.min2 (.int kk x)).run P w' = .ok (.int kk q) w'
  | [], vs, kk, x, q, hv, hx, h => by
    simp only [RepVL] at hv
    subst hv
    simp only [minL] at h
    cases h
    exact ⟨hx, fun w' => by simp⟩
  | y :: l, vs, kk, x, q, hv, hx, h => by
    simp only [RepVL] at hv
    obtain ⟨v, vs', rfl, h1, h2⟩ := hv
    cases y with
    | int k' m =>
      simp only [minL] at h
      cases hk : kbeq kk k' with
      | false => rw [hk] at h; cases h
      | true =>
        rw [hk] at h
        have := kbeq_true hk
        subst this
        simp only [RepV0, Rep, List.cons.injEq, and_true] at h1
        obtain ⟨rfl, hm⟩ := h1
        obtain ⟨i1, i2⟩ := foldlM_min l vs' kk (imin x m) q h2 (by unfold imin; split <;> assumption) h
        exact ⟨i1, fun w' => by simp only [List.foldlM_cons, Builtin.min2]; exact i2 w'⟩
    | _ => simp [minL] at h
theorem foldlM_max : ∀ (l : List AV) (vs : List Value) (kk : IntKind) (x q : Int), RepVL w S σ l vs → inK kk x = true → maxL kk x l = some q → inK kk q = true ∧ ∀ w', (vs.foldlM Builtin.max2 (.int kk x)).run P w' = .ok (.int kk q) w'
  | [], vs, kk, x, q, hv, hx, h => by
    simp only [RepVL] at hv
    subst hv
    simp only [maxL] at h
    cases h
    exact ⟨hx, fun w' => by simp⟩
  | y :: l, vs, kk, x, q, hv, hx, h => by
    simp only [RepVL] at hv
    obtain ⟨v, vs', rfl, h1, h2⟩ := hv
    cases y with
    | int k' m =>
      simp only [maxL] at h
      cases hk : kbeq kk k' with
      | false => rw [hk] at h; cases h
      | true =>
        rw [hk] at h
        have := kbeq_true hk
        subst this
        simp only [RepV0, Rep, List.cons.injEq, and_true] at h1
        obtain ⟨rfl, hm⟩ := h1
        obtain ⟨i1, i2⟩ := foldlM_max l vs' kk (imax x m) q h2 (by unfold imax; split <;> assumption) h
        exact ⟨i1, fun w' => by simp only [List.foldlM_cons, Builtin.max2]; exact i2 w'⟩
    | _ => simp [maxL] at h
/-- The values of operands; no tuple among them. -/
theorem avalL_ok (hr : Rel n F0 w0 σ S s a w) : ∀ {xs : List Operand} {ys : List AV}, avalL s xs = some ys → ∃ vs : List Value, xs.map a.eval = vs ∧ vs.length = ys.length ∧ ∀ (i : Nat) (y : AV), ys[i]? = some y → ∃ v, vs[i]? = some v ∧ RepV w S σ y v
  | [], ys, h => by simp only [avalL] at h; cases h; exact ⟨[], rfl, rfl, by simp⟩
  | x :: xs, ys, h => by
    simp only [avalL] at h
    cases hx : aval s x with
    | none => rw [hx] at h; cases h
    | some y =>
      rw [hx] at h
      simp only at h
      cases hp : avalL s xs with
      | none => rw [hp] at h; cases h
      | some r =>
        rw [hp] at h
        cases h
        obtain ⟨vs, h1, h2, h3⟩ := avalL_ok hr hp
        refine ⟨a.eval x :: vs, by simp [h1], by simp [h2], fun j q hq => ?_⟩
        cases j with
        | zero => simp at hq; subst hq; exact ⟨_, rfl, aval_ok hr hx⟩
        | succ j => obtain ⟨v, hv, hrv⟩ := h3 j q (by simpa using hq); exact ⟨v, by simpa using hv, hrv⟩
theorem repVL_of : ∀ {ys : List AV} {vs : List Value}, vs.length = ys.length → (∀ y ∈ ys, (∃ kk m, y = .int kk m)) → (∀ (i : Nat) (y : AV), ys[i]? = some y → ∃ v, vs[i]? = some v ∧ RepV w S σ y v) → RepVL w S σ ys vs
  | [], [], _, _, _ => rfl
  | [], _ :: _, h, _, _ => by simp at h
  | _ :: _, [], h, _, _ => by simp at h
  | y :: ys, v :: vs, hl, hi, h => by
    obtain ⟨v', hv', hr⟩ := h 0 y rfl
    simp only [List.getElem?_cons_zero, Option.some.injEq] at hv'
    subst hv'
    refine ⟨v, vs, rfl, ?_, repVL_of (by simpa using hl) (fun y hy => hi y (List.mem_cons_of_mem _ hy)) fun j q hq => ?_⟩
    · obtain ⟨kk, m, rfl⟩ := hi y (List.mem_cons_self ..)
      exact hr
    · obtain ⟨u, hu, hru⟩ := h (j + 1) q (by simpa using hq)
      exact ⟨u, by simpa using hu, hru⟩
theorem minL_ints : ∀ {l : List AV} {kk : IntKind} {x q : Int}, minL kk x l = some q → ∀ y ∈ l, ∃ kk m, y = .int kk m
  | [], _, _, _, _ => by simp
  | y :: l, kk, x, q, h => by
    cases y with
    | int k' m =>
      simp only [minL] at h
      cases hk : kbeq kk k' with
      | false => rw [hk] at h; cases h
      | true =>
        rw [hk] at h
        intro z hz
        rcases List.mem_cons.1 hz with rfl | hz
        · exact ⟨_, _, rfl⟩
        · exact minL_ints h z hz
    | _ => simp [minL] at h
theorem maxL_ints : ∀ {l : List AV} {kk : IntKind} {x q : Int}, maxL kk x l = some q → ∀ y ∈ l, ∃ kk m, y = .int kk m
  | [], _, _, _, _ => by simp
  | y :: l, kk, x, q, h => by
    cases y with
    | int k' m =>
      simp only [maxL] at h
      cases hk : kbeq kk k' with
      | false => rw [hk] at h; cases h
      | true =>
        rw [hk] at h
        intro z hz
        rcases List.mem_cons.1 hz with rfl | hz
        · exact ⟨_, _, rfl⟩
        · exact maxL_ints h z hz
    | _ => simp [maxL] at h
/-- 'len' of a slice. -/
theorem len_ok (hr : Rel n F0 w0 σ S s a w) {x : AV} {v : Value} {q : Nat} (hx : RepV w S σ x v) (h : lenOf s x = some q) : ∃ A c, v = .slice A q c ∧ q ≤ maxLen := by
  cases x with
  | nil => simp only [lenOf] at h; cases h; simp only [RepV, RepV0, Rep, List.cons.injEq, and_true] at hx; exact ⟨_, _, hx, Nat.zero_le _⟩
  | ints f kk l => simp only [lenOf] at h; cases h; simp only [RepV, RepV0, Rep, List.cons.injEq, and_true] at hx; obtain ⟨A, c, e, h1, _⟩ := hx; exact ⟨_, _, e, Nat.le_trans h1.cap h1.max⟩
  | rs f T l => simp only [lenOf] at h; cases h; simp only [RepV, RepV0, Rep, List.cons.injEq, and_true] at hx; obtain ⟨A, c, css, e, h1, h2, _⟩ := hx; exact ⟨_, _, e, Nat.le_trans h1 h2⟩
  | ownf id =>
    simp only [lenOf] at h
    cases he : get s.h id with
    | none => rw [he] at h; cases h
    | some e =>
      rw [he] at h
      simp only [RepV, RepV0, Rep, List.cons.injEq, and_true] at hx
      obtain ⟨m, hm, rfl⟩ := hx
      obtain ⟨m', hm', hen⟩ := hr.ents id _ he
      rw [hm] at hm'
      cases hm'
      have := entLen_ok hen h
      subst this
      have := ent_cap hen
      exact ⟨_, _, rfl, by omega⟩
  | own id off len =>
    simp only [lenOf] at h
    cases he : get s.h id with
    | none => rw [he] at h; cases h
    | some e =>
      rw [he] at h
      cases h
      simp only [RepV, RepV0, Rep, List.cons.injEq, and_true] at hx
      obtain ⟨m, A, hm, rfl, hol, _⟩ := hx
      obtain ⟨m', hm', hen⟩ := hr.ents id _ he
      rw [hm] at hm'
      cases hm'
      have := ent_cap hen
      exact ⟨_, _, rfl, by omega⟩
  | _ => simp [lenOf] at h
end
end Go.Proofs.Ytnioiijcmdnhaaa.V
