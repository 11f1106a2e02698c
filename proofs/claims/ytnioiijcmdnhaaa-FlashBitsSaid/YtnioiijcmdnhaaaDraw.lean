/-
  A region that draws its order, walked in ONE order. Plain theorems over any program: no function of the program is named here.
  'Steady' operations (copies, addresses, loads, arithmetic: they leave the world as it is) are taken as early as they may; every other operation must be the only one that may come next. A world that an operation leaves behind while a steady one could still be waiting must extend the world before it (outside the blocks F).
-/
import Derived.OrdersHeld
import Derived.Still
namespace Go.Proofs.Ytnioiijcmdnhaaa

/-- Every block of w, but for those of F, is in w' as it was. -/
structure Ext (F : Nat → Prop) (w w' : World) : Prop where
  size : w.heap.size ≤ w'.heap.size
  block : ∀ k, k < w.heap.size → ¬ F k → w'.heap[k]? = w.heap[k]?

theorem Ext.refl (F : Nat → Prop) (w : World) : Ext F w w := ⟨Nat.le_refl _, fun _ _ _ => rfl⟩
theorem Ext.trans {F : Nat → Prop} {a b c : World} (h : Ext F a b) (k : Ext F b c) : Ext F a c :=
  ⟨Nat.le_trans h.size k.size, fun i hi hf => (k.block i (Nat.lt_of_lt_of_le hi h.size) hf).trans (h.block i hi hf)⟩
theorem Ext.cell {F : Nat → Prop} {w w' : World} (h : Ext F w w') (b o : Nat) (hb : b < w.heap.size) (hf : ¬ F b) : w'.cell? ⟨b, o, none⟩ = w.cell? ⟨b, o, none⟩ := by
  simp [World.cell?, h.block b hb hf]
theorem Ext.cell' {w w' : World} (h : Ext (fun _ => False) w w') (b o : Nat) (hb : b < w.heap.size) : w'.cell? ⟨b, o, none⟩ = w.cell? ⟨b, o, none⟩ := h.cell b o hb id

section
variable {P : Program} {ops : Array Oper} {Q : Exit → Act → World → Prop} {md : Region.Mode} {F : Nat → Prop}

/-- In state 'a', in every world that extends w, operation 'o' leaves 'v' in its temporary and does nothing else. -/
def YieldsX (P : Program) (ops : Array Oper) (F : Nat → Prop) (o : Oper) (v : Value) (a : Act) (w : World) : Prop :=
  ∀ w', Ext F w w' → YieldsAt P ops w' o v a

theorem YieldsX.of_same {o : Oper} {v : Value} {a a' : Act} {w : World} (hy : YieldsX P ops F o v a w) (he : execOp a'.eval o = execOp a.eval o)
    (hw : Region.wanted o (yielded ops a'.tmps) = Region.wanted o (yielded ops a.tmps)) : YieldsX P ops F o v a' w :=
  fun w' hx => (hy w' hx).of_same he hw
theorem YieldsX.later {o : Oper} {v : Value} {a : Act} {w w1 : World} (hy : YieldsX P ops F o v a w) (h : Ext F w w1) : YieldsX P ops F o v a w1 :=
  fun w' hx => hy w' (h.trans hx)
theorem YieldsX.wpOp {i : Nat} {o : Oper} {v : Value} {a : Act} {w : World} (hi : ops[i]? = some o) (hy : YieldsX P ops F o v a w) {K : Act → World → Prop}
    (h : K (a.put o.dst v) w) : wpOp P ops Q i K a w :=
  wpOp_of_stOp (w := w) (K := fun a' => K a' w) (fun _ h => h) (YieldsAt.stOp hi (hy w (Ext.refl _ _)) h)

theorem wpOp_putX {j : Nat} {oi oj : Oper} {v : Value} (hj : ops[j]? = some oj) (hap : oi.apart ops oj = true)
    (hsi : ∀ cs b, oi.op ≠ .select cs b) (hsj : ∀ cs b, oj.op ≠ .select cs b)
    (hQ : ∀ c a w, Q (.panic c) (a.put oi.dst v) w → Q (.panic c) a w) {K : Act → World → Prop} {a : Act} {w : World}
    (hy : YieldsX P ops F oi v a w) (h : wpOp P ops Q j K (a.put oi.dst v) w) :
    wpOp P ops Q j (fun a' w' => YieldsX P ops F oi v a' w ∧ K (a'.put oi.dst v) w') a w := by
  obtain ⟨h1, h2, h3⟩ := Oper.apart_spec hap
  have keep : ∀ (a : Act), YieldsX P ops F oi v a w → ∀ u, YieldsX P ops F oi v (a.put oj.dst u) w := fun a hy u =>
    hy.of_same (execOp_put oi hsi a oj.dst u h3) (wanted_put oi a oj.dst u h3)
  have keepD : ∀ d, YieldsX P ops F oi v { a with defers := d :: a.defers } w := fun d => hy.of_same rfl rfl
  unfold wpOp at *
  simp only [hj] at *
  rw [wanted_put oj a oi.dst v h1] at h
  split
  · rename_i hw
    simp only [hw, if_true] at h
    rcases h with h | ⟨hasks, hlets⟩
    case inr => exact .inr ⟨by unfold Oper.asks at *; rw [execOp_put oj hsj a oi.dst v h1] at hasks; exact hasks, hlets⟩
    refine .inl ?_
    unfold Oper.wp at *
    rw [execOp_put oj hsj a oi.dst v h1] at h
    generalize (execOp a.eval oj).run P w = r at *
    cases r with
    | ok n w' =>
      cases n <;> simp only [Oper.upon] at h ⊢
      case value u => exact ⟨keep a hy u, by rw [← Act.put_comm a v u h2]; exact h⟩
      case skip => exact ⟨keep a hy _, by rw [← Act.put_comm a v undef h2]; exact h⟩
      case defer d =>
        refine ⟨(keepD d).of_same (execOp_put oi hsi _ oj.dst undef h3) (wanted_put oi _ oj.dst undef h3), ?_⟩
        rw [← Act.put_comm _ v undef h2, ← Act.put_defers]
        exact h
      case enter f args =>
        refine Calls.mono h fun e w'' he => ?_
        cases e with
        | returned u => exact ⟨keep a hy u, by rw [← Act.put_comm a v u h2]; exact he⟩
        | panicked c => exact hQ _ _ _ he
        | outgrown => exact he
      case row row args => exact Rows.mono h fun u w'' he => ⟨keep a hy u, by rw [← Act.put_comm a v u h2]; exact he⟩
    | halt x w' =>
      cases x <;> simp only [Oper.upon] at h ⊢
      case panic u => exact hQ _ _ _ h
  · rename_i hw
    simp only [hw] at h
    exact ⟨keep a hy _, by rw [← Act.put_comm a v undef h2]; exact h⟩

/-- Whatever order is picked; behind a flagged operation the world extends the one before it. -/
def wpAnyX (P : Program) (md : Region.Mode) (ops : Array Oper) (Q : Exit → Act → World → Prop) (F : Nat → Prop) (flag : Nat → Bool) : Nat → Array Bool → Act → World → Prop
  | 0, listed, a, w => Region.ready md ops listed = [] ∧ Q .normal a w
  | fuel + 1, listed, a, w =>
    (Region.ready md ops listed = [] → Q .normal a w) ∧
    ∀ i ∈ Region.ready md ops listed, wpOp P ops Q i (fun a' w' => (flag i = true → Ext F w w') ∧ wpAnyX P md ops Q F flag fuel (listed.setIfInBounds i true) a' w') a w

theorem wpAny_of_X {flag : Nat → Bool} : ∀ (fuel : Nat) (listed : Array Bool) (a : Act) (w : World), wpAnyX P md ops Q F flag fuel listed a w → wpAny P md ops Q fuel listed a w
  | 0, _, _, _, h => h
  | fuel + 1, _, _, _, h => ⟨h.1, fun i hi => wpOp_mono (fun a' w' h' => wpAny_of_X fuel _ a' w' h'.2) (h.2 i hi)⟩

def Closed (md : Region.Mode) (ops : Array Oper) (listed : Array Bool) : Prop :=
  ∀ j o, ops[j]? = some o → listed.getD j false = true → ∀ e ∈ o.after, Region.binds md e = true → listed.getD e.on false = true
/-- Whom operation j waits for, directly or through others: bit i of number j. -/
def maskOf (md : Region.Mode) (ops : Array Oper) (tab : Array Nat) (j : Nat) : Nat :=
  ((ops[j]?).map fun o => o.after.toList.foldl (fun acc e => if Region.binds md e then (acc ||| 2 ^ e.on) ||| tab.getD e.on 0 else acc) 0).getD 0
def tabOk (md : Region.Mode) (ops : Array Oper) (tab : Array Nat) : Bool :=
  (List.range ops.size).all fun j => tab.getD j 0 == maskOf md ops tab j && ((ops[j]?).map fun o => o.after.toList.all fun e => !Region.binds md e || decide (e.on < j)).getD true
theorem mask_bit {tab : Array Nat} {i : Nat} : ∀ (l : List Edge) (acc : Nat), (l.foldl (fun acc e => if Region.binds md e then (acc ||| 2 ^ e.on) ||| tab.getD e.on 0 else acc) acc).testBit i = true →
    acc.testBit i = true ∨ ∃ e ∈ l, Region.binds md e = true ∧ (e.on = i ∨ (tab.getD e.on 0).testBit i = true) := by
  intro l
  induction l with
  | nil => intro acc h; exact .inl h
  | cons e l ih =>
    intro acc h
    rw [List.foldl_cons] at h
    rcases ih _ h with h | ⟨e', he', h⟩
    · split at h
      · rename_i hb
        rw [Nat.testBit_or, Nat.testBit_or, Nat.testBit_two_pow] at h
        simp only [Bool.or_eq_true, decide_eq_true_eq] at h
        rcases h with (h | h) | h
        · exact .inl h
        · exact .inr ⟨e, List.mem_cons_self .., hb, .inl h⟩
        · exact .inr ⟨e, List.mem_cons_self .., hb, .inr h⟩
      · exact .inl h
    · exact .inr ⟨e', List.mem_cons_of_mem _ he', h⟩
theorem waits_listed {tab : Array Nat} {listed : Array Bool} (ht : tabOk md ops tab = true) (hc : Closed md ops listed) {i : Nat} : ∀ (j : Nat), j < ops.size → (tab.getD j 0).testBit i = true →
    (∀ o, ops[j]? = some o → ∀ e ∈ o.after, Region.binds md e = true → listed.getD e.on false = true) → listed.getD i false = true := by
  intro j
  induction j using Nat.strongRecOn with
  | ind j ih =>
    intro hj hb hp
    have h0 := (List.all_eq_true.1 ht) j (by simpa using hj)
    simp only [Bool.and_eq_true, beq_iff_eq] at h0
    obtain ⟨h1, h2⟩ := h0
    have ho : ops[j]? = some ops[j] := Array.getElem?_eq_getElem hj
    rw [h1] at hb
    simp only [maskOf, ho, Option.map_some, Option.getD_some] at hb h2
    rcases mask_bit _ _ hb with h | ⟨e, he, hbd, h⟩
    · simp at h
    · have hl := hp _ ho e (by simpa using he) hbd
      rcases h with rfl | h
      · exact hl
      · have hlt : e.on < j := by
          have := (List.all_eq_true.1 h2) e he
          simpa [hbd] using this
        exact ih e.on hlt (by omega) h fun o' ho' => hc e.on o' ho' hl
theorem Closed.set {listed : Array Bool} (hc : Closed md ops listed) {i : Nat} (hi : i ∈ Region.ready md ops listed) : Closed md ops (listed.setIfInBounds i true) := by
  intro j o ho hl e he hb
  by_cases hj : j = i
  · subst hj
    obtain ⟨_, o', ho', hall⟩ := mem_ready.1 hi
    rw [ho] at ho'
    cases ho'
    exact getD_set_true (hall e he hb)
  · rw [getD_set_ne false (Ne.symm hj)] at hl
    exact getD_set_true (hc j o ho hl e he hb)
theorem closed_start (n : Nat) : Closed md ops (Array.replicate n false) := by
  intro j o _ hl
  rcases Nat.lt_or_ge j n with h | h
  · simp [h] at hl
  · simp [Nat.not_lt.2 h] at hl

theorem wpAnyX_first {flag : Nat → Bool} {tab : Array Nat} (htab : tabOk md ops tab = true) {i : Nat} {oi : Oper} {v : Value} (hi : ops[i]? = some oi) (hsel : ∀ (j : Nat) (o : Oper) cs b, ops[j]? = some o → o.op ≠ .select cs b)
    (hQ : ∀ c a w, Q (.panic c) (a.put oi.dst v) w → Q (.panic c) a w) (hflag : ∀ j, j < ops.size → j ≠ i → flag j = false → (tab.getD j 0).testBit i = true ∨ (tab.getD i 0).testBit j = true) :
    ∀ (fuel : Nat) (listed : Array Bool) (a : Act) (w : World), Closed md ops listed →
      (∀ j oj, ops[j]? = some oj → j ≠ i → listed.getD j true = false → (∀ e ∈ oj.after, Region.binds md e = true → e.on ≠ i) → oi.apart ops oj = true) →
      i ∈ Region.ready md ops listed → YieldsX P ops F oi v a w →
      wpAnyX P md ops Q F flag fuel (listed.setIfInBounds i true) (a.put oi.dst v) w → wpAnyX P md ops Q F flag (fuel + 1) listed a w := by
  intro fuel
  induction fuel with
  | zero =>
    intro listed a w _ _ hr hy H
    refine ⟨fun h => (by rw [h] at hr; cases hr), fun j hj => ?_⟩
    by_cases hji : j = i
    · subst hji; exact hy.wpOp hi ⟨fun _ => Ext.refl _ _, H⟩
    · have := ready_mono hj hji
      rw [H.1] at this
      cases this
  | succ fuel ih =>
    intro listed a w hcl hfree hr hy H
    refine ⟨fun h => (by rw [h] at hr; cases hr), fun j hj => ?_⟩
    by_cases hji : j = i
    · subst hji; exact hy.wpOp hi ⟨fun _ => Ext.refl _ _, H⟩
    · have h1 := H.2 j (ready_mono hj hji)
      obtain ⟨hjun, oj, hoj, hall⟩ := mem_ready.1 hj
      have h0 := (mem_ready.1 hr).1
      have hun : listed.getD i false = false := by
        rcases Nat.lt_or_ge i listed.size with h' | h'
        · simp [h'] at h0 ⊢; exact h0
        · simp [Array.getElem?_eq_none h'] at h0
      have hnot : ∀ e ∈ oj.after, Region.binds md e = true → e.on ≠ i := fun e he hb heq => by
        have h1 := hall e he hb
        rw [heq, hun] at h1
        cases h1
      have hfl : flag j = true := by
        cases hfj : flag j with
        | true => rfl
        | false =>
          rcases hflag j (Array.getElem?_eq_some_iff.1 hoj).1 hji hfj with hw | hw
          · have := waits_listed htab hcl j (Array.getElem?_eq_some_iff.1 hoj).1 hw fun o ho e he hb => by rw [hoj] at ho; cases ho; exact hall e he hb
            rw [hun] at this
            cases this
          · obtain ⟨_, o2, ho2, hall2⟩ := mem_ready.1 hr
            have := waits_listed htab hcl i (Array.getElem?_eq_some_iff.1 ho2).1 hw fun o ho e he hb => by rw [ho2] at ho; cases ho; exact hall2 e he hb
            rcases Nat.lt_or_ge j listed.size with h' | h'
            · simp [h'] at this hjun
              rw [this] at hjun
              cases hjun
            · simp [Array.getElem?_eq_none h'] at this
      have h2 := wpOp_putX hoj (hfree j oj hoj hji hjun hnot) (fun cs b => hsel i oi cs b hi) (fun cs b => hsel j oj cs b hoj) hQ hy h1
      have hfree' : ∀ k ok, ops[k]? = some ok → k ≠ i → (listed.setIfInBounds j true).getD k true = false →
          (∀ e ∈ ok.after, Region.binds md e = true → e.on ≠ i) → oi.apart ops ok = true := fun k ok hk hki hun hno => by
        refine hfree k ok hk hki ?_ hno
        by_cases hjk : j = k
        · subst hjk; exact hjun
        · rw [getD_set_ne true hjk] at hun; exact hun
      refine wpOp_mono (fun a' w' h3 => ⟨h3.2.1, ih (listed.setIfInBounds j true) a' w' (hcl.set hj) hfree' (ready_mono hr (Ne.symm hji)) (h3.1.later (h3.2.1 hfl)) ?_⟩) h2
      rw [Array.setIfInBounds_comm _ _ hji]
      exact h3.2.2
end
end Go.Proofs.Ytnioiijcmdnhaaa
