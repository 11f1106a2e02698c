/-
  Steady operations that read no memory: they may float beside any operation. Plain theorems over any program.
-/
import Derived.Test.YtnioiijcmdnhaaaLin
set_option linter.all false
namespace Go.Proofs.Ytnioiijcmdnhaaa
/-- Operations that read no memory. -/
def pureOp : Op → Bool
  | .move _ | .assign _ | .slice .. | .extract .. => true
  | _ => false
def pureN (ops : Array Oper) (l : List Nat) : Bool := l.all fun i => pureOp (opAt ops i).op
section
variable {P : Program} {ops : Array Oper} {Q : Exit → Act → World → Prop} {md : Region.Mode} {F : Nat → Prop}
def YieldsAll (P : Program) (ops : Array Oper) (o : Oper) (v : Value) (a : Act) : Prop := ∀ w', YieldsAt P ops w' o v a
theorem YieldsAll.of_same {o : Oper} {v : Value} {a a' : Act} (hy : YieldsAll P ops o v a) (he : execOp a'.eval o = execOp a.eval o)
    (hw : Region.wanted o (yielded ops a'.tmps) = Region.wanted o (yielded ops a.tmps)) : YieldsAll P ops o v a' :=
  fun w' => (hy w').of_same he hw
theorem YieldsAll.toX {o : Oper} {v : Value} {a : Act} (hy : YieldsAll P ops o v a) (w : World) : YieldsX P ops F o v a w := fun w' _ => hy w'
theorem wpOp_putA {j : Nat} {oi oj : Oper} {v : Value} (hj : ops[j]? = some oj) (hap : oi.apart ops oj = true)
    (hsi : ∀ cs b, oi.op ≠ .select cs b) (hsj : ∀ cs b, oj.op ≠ .select cs b)
    (hQ : ∀ c a w, Q (.panic c) (a.put oi.dst v) w → Q (.panic c) a w) {K : Act → World → Prop} {a : Act} {w : World}
    (hy : YieldsAll P ops oi v a) (h : wpOp P ops Q j K (a.put oi.dst v) w) :
    wpOp P ops Q j (fun a' w' => YieldsAll P ops oi v a' ∧ K (a'.put oi.dst v) w') a w := by
  obtain ⟨h1, h2, h3⟩ := Oper.apart_spec hap
  have keep : ∀ (a : Act), YieldsAll P ops oi v a → ∀ u, YieldsAll P ops oi v (a.put oj.dst u) := fun a hy u =>
    hy.of_same (execOp_put oi hsi a oj.dst u h3) (wanted_put oi a oj.dst u h3)
  have keepD : ∀ d, YieldsAll P ops oi v { a with defers := d :: a.defers } := fun d => hy.of_same rfl rfl
  unfold wpOp at *
  simp only [hj] at *
  rw [wanted_put oj a oi.dst v h1] at h
  split
  · rename_i hw
    simp only [hw, if_true] at h
    rcases h with h | ⟨hasks, hlets⟩
    case inr => exact .inr ⟨by unfold Oper.asks at *; rw [execOp_put oj hsj a oi.dst v h1] at hasks; exact hasks, hlets⟩
    refine .inl ?_
    unfold Oper.wp at *
    rw [execOp_put oj hsj a oi.dst v h1] at h
    generalize (execOp a.eval oj).run P w = r at *
    cases r with
    | ok n w' =>
      cases n <;> simp only [Oper.upon] at h ⊢
      case value u => exact ⟨keep a hy u, by rw [← Act.put_comm a v u h2]; exact h⟩
      case skip => exact ⟨keep a hy _, by rw [← Act.put_comm a v undef h2]; exact h⟩
      case defer d =>
        refine ⟨(keepD d).of_same (execOp_put oi hsi _ oj.dst undef h3) (wanted_put oi _ oj.dst undef h3), ?_⟩
        rw [← Act.put_comm _ v undef h2, ← Act.put_defers]
        exact h
      case enter f args =>
        refine Calls.mono h fun e w'' he => ?_
        cases e with
        | returned u => exact ⟨keep a hy u, by rw [← Act.put_comm a v u h2]; exact he⟩
        | panicked c => exact hQ _ _ _ he
        | outgrown => exact he
      case row row args => exact Rows.mono h fun u w'' he => ⟨keep a hy u, by rw [← Act.put_comm a v u h2]; exact he⟩
    | halt x w' =>
      cases x <;> simp only [Oper.upon] at h ⊢
      case panic u => exact hQ _ _ _ h
  · rename_i hw
    simp only [hw] at h
    exact ⟨keep a hy _, by rw [← Act.put_comm a v undef h2]; exact h⟩

theorem wpAnyX_firstA {flag : Nat → Bool} {i : Nat} {oi : Oper} {v : Value} (hi : ops[i]? = some oi) (hsel : ∀ (j : Nat) (o : Oper) cs b, ops[j]? = some o → o.op ≠ .select cs b)
    (hQ : ∀ c a w, Q (.panic c) (a.put oi.dst v) w → Q (.panic c) a w) :
    ∀ (fuel : Nat) (listed : Array Bool) (a : Act) (w : World), Closed md ops listed →
      (∀ j oj, ops[j]? = some oj → j ≠ i → listed.getD j true = false → (∀ e ∈ oj.after, Region.binds md e = true → e.on ≠ i) → oi.apart ops oj = true) →
      i ∈ Region.ready md ops listed → YieldsAll P ops oi v a →
      wpAnyX P md ops Q F flag fuel (listed.setIfInBounds i true) (a.put oi.dst v) w → wpAnyX P md ops Q F flag (fuel + 1) listed a w := by
  intro fuel
  induction fuel with
  | zero =>
    intro listed a w _ _ hr hy H
    refine ⟨fun h => (by rw [h] at hr; cases hr), fun j hj => ?_⟩
    by_cases hji : j = i
    · subst hji; exact (hy.toX (F := F) w).wpOp hi ⟨fun _ => Ext.refl _ _, H⟩
    · have := ready_mono hj hji
      rw [H.1] at this
      cases this
  | succ fuel ih =>
    intro listed a w hcl hfree hr hy H
    refine ⟨fun h => (by rw [h] at hr; cases hr), fun j hj => ?_⟩
    by_cases hji : j = i
    · subst hji; exact (hy.toX (F := F) w).wpOp hi ⟨fun _ => Ext.refl _ _, H⟩
    · have h1 := H.2 j (ready_mono hj hji)
      obtain ⟨hjun, oj, hoj, hall⟩ := mem_ready.1 hj
      have h0 := (mem_ready.1 hr).1
      have hun : listed.getD i false = false := by
        rcases Nat.lt_or_ge i listed.size with h' | h'
        · simp [h'] at h0 ⊢; exact h0
        · simp [Array.getElem?_eq_none h'] at h0
      have hnot : ∀ e ∈ oj.after, Region.binds md e = true → e.on ≠ i := fun e he hb heq => by
        have h1 := hall e he hb
        rw [heq, hun] at h1
        cases h1
      have h2 := wpOp_putA hoj (hfree j oj hoj hji hjun hnot) (fun cs b => hsel i oi cs b hi) (fun cs b => hsel j oj cs b hoj) hQ hy h1
      have hfree' : ∀ k ok, ops[k]? = some ok → k ≠ i → (listed.setIfInBounds j true).getD k true = false →
          (∀ e ∈ ok.after, Region.binds md e = true → e.on ≠ i) → oi.apart ops ok = true := fun k ok hk hki hun hno => by
        refine hfree k ok hk hki ?_ hno
        by_cases hjk : j = k
        · subst hjk; exact hjun
        · rw [getD_set_ne true hjk] at hun; exact hun
      refine wpOp_mono (fun a' w' h3 => ⟨h3.2.1, ih (listed.setIfInBounds j true) a' w' (hcl.set hj) hfree' (ready_mono hr (Ne.symm hji)) h3.1 ?_⟩) h2
      rw [Array.setIfInBounds_comm _ _ hji]
      exact h3.2.2
theorem still_takeA (w : World) {A : Act} {o : Oper} {l : List Oper} {a : Act} {d : Tmp} (h : ∀ w', wpStill P ops w' (fun a' => a' = A) (o :: l) a)
    (hd : o.dst = some d) (hsz : d < a.tmps.size) (hnd : ∀ o' ∈ l, o'.dst ≠ some d) :
    ∃ v, YieldsAll P ops o v a ∧ ∀ w', wpStill P ops w' (fun a' => a' = A) l (a.put o.dst v) := by
  obtain ⟨v, hy, hs⟩ := still_split (h w)
  have e0 := still_slot l _ hnd hs
  rw [hd, Act.put_same a d v hsz] at e0
  have hall : ∀ w', YieldsAt P ops w' o v a ∧ wpStill P ops w' (fun a' => a' = A) l (a.put o.dst v) := by
    intro w'
    obtain ⟨v', hy', hs'⟩ := still_split (h w')
    have e1 := still_slot l _ hnd hs'
    rw [hd, Act.put_same a d v' hsz, e0] at e1
    obtain rfl : v = v' := by injection e1
    exact ⟨hy', hs'⟩
  exact ⟨v, fun w' => (hall w').1, fun w' => (hall w').2⟩

def takeOkT (md : Region.Mode) (ops : Array Oper) (tab : Array Nat) (flags : List (Nat × Bool)) (n : Nat) (pu : Bool) : List Nat → Array Bool → Option (Array Bool)
  | [], listed => some listed
  | i :: l, listed =>
    if (Region.ready md ops listed).contains i && Region.free md ops listed i && decide (i < ops.size) &&
      (match (opAt ops i).dst with | some d => decide (d < n) && l.all (fun k => (opAt ops k).dst != some d) | none => false) &&
      (pu || (List.range ops.size).all (fun j => j == i || ((flags.lookup j).getD true) || (tab.getD j 0).testBit i || (tab.getD i 0).testBit j))
    then takeOkT md ops tab flags n pu l (listed.setIfInBounds i true) else none
theorem take_soundT {tab : Array Nat} (htab : tabOk md ops tab = true) {flags : List (Nat × Bool)} {n : Nat} {pu : Bool} (hs : Region.noSelect ops = true) (hQ : ∀ c a w (d : Option Tmp) (v : Value), Q (.panic c) (a.put d v) w → Q (.panic c) a w) {A : Act} {w : World} {fuel : Nat} :
    ∀ (l : List Nat) (listed listed' : Array Bool) (a : Act), takeOkT md ops tab flags n pu l listed = some listed' → Closed md ops listed → a.tmps.size = n →
      (∀ w', (pu = true ∨ Ext F w w') → wpStill P ops w' (fun a' => a' = A) (l.map (opAt ops)) a) →
      (A.tmps.size = n → Closed md ops listed' → wpAnyX P md ops Q F (fun j => (flags.lookup j).getD true) fuel listed' A w) → wpAnyX P md ops Q F (fun j => (flags.lookup j).getD true) (l.length + fuel) listed a w := by
  intro l
  induction l with
  | nil =>
    intro listed listed' a h hc hn hst H
    obtain rfl : listed = listed' := by simpa [takeOkT] using h
    have hA : a = A := hst w (.inr (Ext.refl _ _))
    subst hA
    simpa using H hn hc
  | cons i l ih =>
    intro listed listed' a h hc hn hst H
    cases hdst : (opAt ops i).dst with
    | none => simp [takeOkT, hdst] at h
    | some d =>
      simp only [takeOkT, hdst] at h
      split at h
      case isFalse => cases h
      rename_i hcond
      simp only [Bool.and_eq_true, decide_eq_true_eq, Bool.or_eq_true, List.all_eq_true, bne_iff_ne] at hcond
      obtain ⟨⟨⟨⟨hr, hf⟩, hlt⟩, hdn, hnd⟩, hfl⟩ := hcond
      have hsz : d < a.tmps.size := by rw [hn]; exact hdn
      have hr' : i ∈ Region.ready md ops listed := by simpa using hr
      have e : (i :: l).length + fuel = (l.length + fuel) + 1 := by simp; omega
      have hnd' : ∀ o' ∈ l.map (opAt ops), o'.dst ≠ some d := by
        intro o' ho'
        obtain ⟨k, hk, rfl⟩ := List.mem_map.1 ho'
        exact hnd k hk
      rw [e]
      cases hpu : pu with
      | true =>
        subst hpu
        obtain ⟨v, hy, hst'⟩ := still_takeA (d := d) (a := a) (o := opAt ops i) (l := l.map (opAt ops)) w (fun w' => hst w' (.inl rfl)) hdst hsz hnd'
        have := ih (listed.setIfInBounds i true) listed' (a.put (opAt ops i).dst v) h (hc.set hr') (by rw [Act.put_size]; exact hn) (fun w' _ => hst' w') H
        exact wpAnyX_firstA (v := v) (opAt_of hlt) (Region.noSelect_spec hs) (fun c a w => hQ c a w _ _) _ listed a w hc (Region.free_spec (opAt_of hlt) hf) hr' hy this
      | false =>
        subst hpu
        obtain ⟨v, hy, hst'⟩ := still_take (F := F) (d := d) (a := a) (o := opAt ops i) (l := l.map (opAt ops)) (w := w) (fun w' hx => hst w' (.inr hx)) hdst hsz hnd'
        have := ih (listed.setIfInBounds i true) listed' (a.put (opAt ops i).dst v) h (hc.set hr') (by rw [Act.put_size]; exact hn) (fun w' hx => hst' w' (by rcases hx with hx | hx; cases hx; exact hx)) H
        refine wpAnyX_first (v := v) htab (opAt_of hlt) (Region.noSelect_spec hs) (fun c a w => hQ c a w _ _) ?_ _ listed a w hc (Region.free_spec (opAt_of hlt) hf) hr' hy this
        intro j hj hji hfj
        rcases hfl with hfl | hfl
        · cases hfl
        have := hfl j (by simpa using hj)
        simp only [Bool.or_eq_true, beq_iff_eq] at this
        rcases this with ((h | h) | h) | h
        · exact absurd h hji
        · rw [h] at hfj; cases hfj
        · exact .inl h
        · exact .inr h
end
end Go.Proofs.Ytnioiijcmdnhaaa
