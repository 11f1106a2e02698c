/-
  A region that draws its order, walked in ONE order. Plain theorems over any program: no function of the program is named here. 'Steady' operations (copies, addresses, loads, arithmetic: they leave the world as it is) are taken as early as they may; every other operation must be the only one that may come next. A world that an operation leaves behind while a steady one could still be waiting must extend the world before it (outside the blocks F).
  A region that draws its order, walked in one order: the linear form ('Lin'), and that it serves for every order ('wp_draw'). Plain theorems over any program.
  Steady operations that read no memory: they may float beside any operation. Plain theorems over any program.
  A region that draws its order, where several operations that are not steady may come next: a tree of orders. Plain theorems over any program.
-/
import Derived.OrdersHeld
import Derived.Still
import Derived.Tactics

namespace Go.Proofs.Ytokeanadhihlfaa

/-- Every block of w, but for those of F, is in w' as it was. -/
structure Ext (F : Nat → Prop) (w w' : World) : Prop where
  size : w.heap.size ≤ w'.heap.size
  block : ∀ k, k < w.heap.size → ¬ F k → w'.heap[k]? = w.heap[k]?

theorem Ext.refl (F : Nat → Prop) (w : World) : Ext F w w := ⟨Nat.le_refl _, fun _ _ _ => rfl⟩
theorem Ext.trans {F : Nat → Prop} {a b c : World} (h : Ext F a b) (k : Ext F b c) : Ext F a c :=
  ⟨Nat.le_trans h.size k.size, fun i hi hf => (k.block i (Nat.lt_of_lt_of_le hi h.size) hf).trans (h.block i hi hf)⟩
theorem Ext.cell {F : Nat → Prop} {w w' : World} (h : Ext F w w') (b o : Nat) (hb : b < w.heap.size) (hf : ¬ F b) : w'.cell? ⟨b, o, none⟩ = w.cell? ⟨b, o, none⟩ := by
  simp [World.cell?, h.block b hb hf]
theorem Ext.cell' {w w' : World} (h : Ext (fun _ => False) w w') (b o : Nat) (hb : b < w.heap.size) : w'.cell? ⟨b, o, none⟩ = w.cell? ⟨b, o, none⟩ := h.cell b o hb id

section
variable {P : Program} {ops : Array Oper} {Q : Exit → Act → World → Prop} {md : Region.Mode} {F : Nat → Prop}

/-- In state 'a', in every world that extends w, operation 'o' leaves 'v' in its temporary and does nothing else. -/
def YieldsX (P : Program) (ops : Array Oper) (F : Nat → Prop) (o : Oper) (v : Value) (a : Act) (w : World) : Prop :=
  ∀ w', Ext F w w' → YieldsAt P ops w' o v a

theorem YieldsX.of_same {o : Oper} {v : Value} {a a' : Act} {w : World} (hy : YieldsX P ops F o v a w) (he : execOp a'.eval o = execOp a.eval o)
    (hw : Region.wanted o (yielded ops a'.tmps) = Region.wanted o (yielded ops a.tmps)) : YieldsX P ops F o v a' w :=
  fun w' hx => (hy w' hx).of_same he hw
theorem YieldsX.later {o : Oper} {v : Value} {a : Act} {w w1 : World} (hy : YieldsX P ops F o v a w) (h : Ext F w w1) : YieldsX P ops F o v a w1 :=
  fun w' hx => hy w' (h.trans hx)
theorem YieldsX.wpOp {i : Nat} {o : Oper} {v : Value} {a : Act} {w : World} (hi : ops[i]? = some o) (hy : YieldsX P ops F o v a w) {K : Act → World → Prop}
    (h : K (a.put o.dst v) w) : wpOp P ops Q i K a w :=
  wpOp_of_stOp (w := w) (K := fun a' => K a' w) (fun _ h => h) (YieldsAt.stOp hi (hy w (Ext.refl _ _)) h)

theorem wpOp_putX {j : Nat} {oi oj : Oper} {v : Value} (hj : ops[j]? = some oj) (hap : oi.apart ops oj = true)
    (hsi : ∀ cs b, oi.op ≠ .select cs b) (hsj : ∀ cs b, oj.op ≠ .select cs b)
    (hQ : ∀ c a w, Q (.panic c) (a.put oi.dst v) w → Q (.panic c) a w) {K : Act → World → Prop} {a : Act} {w : World}
    (hy : YieldsX P ops F oi v a w) (h : wpOp P ops Q j K (a.put oi.dst v) w) :
    wpOp P ops Q j (fun a' w' => YieldsX P ops F oi v a' w ∧ K (a'.put oi.dst v) w') a w := by
  obtain ⟨h1, h2, h3⟩ := Oper.apart_spec hap
  have keep : ∀ (a : Act), YieldsX P ops F oi v a w → ∀ u, YieldsX P ops F oi v (a.put oj.dst u) w := fun a hy u =>
    hy.of_same (execOp_put oi hsi a oj.dst u h3) (wanted_put oi a oj.dst u h3)
  have keepD : ∀ d, YieldsX P ops F oi v { a with defers := d :: a.defers } w := fun d => hy.of_same rfl rfl
  unfold wpOp at *
  simp only [hj] at *
  rw [wanted_put oj a oi.dst v h1] at h
  split
  · rename_i hw
    simp only [hw, if_true] at h
    rcases h with h | ⟨hasks, hlets⟩
    case inr => exact .inr ⟨by unfold Oper.asks at *; rw [execOp_put oj hsj a oi.dst v h1] at hasks; exact hasks, hlets⟩
    refine .inl ?_
    unfold Oper.wp at *
    rw [execOp_put oj hsj a oi.dst v h1] at h
    generalize (execOp a.eval oj).run P w = r at *
    cases r with
    | ok n w' =>
      cases n <;> simp only [Oper.upon] at h ⊢
      case value u => exact ⟨keep a hy u, by rw [← Act.put_comm a v u h2]; exact h⟩
      case skip => exact ⟨keep a hy _, by rw [← Act.put_comm a v undef h2]; exact h⟩
      case defer d =>
        refine ⟨(keepD d).of_same (execOp_put oi hsi _ oj.dst undef h3) (wanted_put oi _ oj.dst undef h3), ?_⟩
        rw [← Act.put_comm _ v undef h2, ← Act.put_defers]
        exact h
      case enter f args =>
        refine Calls.mono h fun e w'' he => ?_
        cases e with
        | returned u => exact ⟨keep a hy u, by rw [← Act.put_comm a v u h2]; exact he⟩
        | panicked c => exact hQ _ _ _ he
        | outgrown => exact he
      case row row args => exact Rows.mono h fun u w'' he => ⟨keep a hy u, by rw [← Act.put_comm a v u h2]; exact he⟩
    | halt x w' =>
      cases x <;> simp only [Oper.upon] at h ⊢
      case panic u => exact hQ _ _ _ h
  · rename_i hw
    simp only [hw] at h
    exact ⟨keep a hy _, by rw [← Act.put_comm a v undef h2]; exact h⟩

/-- Whatever order is picked; behind a flagged operation the world extends the one before it. -/
def wpAnyX (P : Program) (md : Region.Mode) (ops : Array Oper) (Q : Exit → Act → World → Prop) (F : Nat → Prop) (flag : Nat → Bool) : Nat → Array Bool → Act → World → Prop
  | 0, listed, a, w => Region.ready md ops listed = [] ∧ Q .normal a w
  | fuel + 1, listed, a, w =>
    (Region.ready md ops listed = [] → Q .normal a w) ∧
    ∀ i ∈ Region.ready md ops listed, wpOp P ops Q i (fun a' w' => (flag i = true → Ext F w w') ∧ wpAnyX P md ops Q F flag fuel (listed.setIfInBounds i true) a' w') a w

theorem wpAny_of_X {flag : Nat → Bool} : ∀ (fuel : Nat) (listed : Array Bool) (a : Act) (w : World), wpAnyX P md ops Q F flag fuel listed a w → wpAny P md ops Q fuel listed a w
  | 0, _, _, _, h => h
  | fuel + 1, _, _, _, h => ⟨h.1, fun i hi => wpOp_mono (fun a' w' h' => wpAny_of_X fuel _ a' w' h'.2) (h.2 i hi)⟩

def Closed (md : Region.Mode) (ops : Array Oper) (listed : Array Bool) : Prop :=
  ∀ j o, ops[j]? = some o → listed.getD j false = true → ∀ e ∈ o.after, Region.binds md e = true → listed.getD e.on false = true
/-- Whom operation j waits for, directly or through others: bit i of number j. -/
def maskOf (md : Region.Mode) (ops : Array Oper) (tab : Array Nat) (j : Nat) : Nat :=
  ((ops[j]?).map fun o => o.after.toList.foldl (fun acc e => if Region.binds md e then (acc ||| 2 ^ e.on) ||| tab.getD e.on 0 else acc) 0).getD 0
def tabOk (md : Region.Mode) (ops : Array Oper) (tab : Array Nat) : Bool :=
  (List.range ops.size).all fun j => tab.getD j 0 == maskOf md ops tab j && ((ops[j]?).map fun o => o.after.toList.all fun e => !Region.binds md e || decide (e.on < j)).getD true
theorem mask_bit {tab : Array Nat} {i : Nat} : ∀ (l : List Edge) (acc : Nat), (l.foldl (fun acc e => if Region.binds md e then (acc ||| 2 ^ e.on) ||| tab.getD e.on 0 else acc) acc).testBit i = true →
    acc.testBit i = true ∨ ∃ e ∈ l, Region.binds md e = true ∧ (e.on = i ∨ (tab.getD e.on 0).testBit i = true) := by
  intro l
  induction l with
  | nil => intro acc h; exact .inl h
  | cons e l ih =>
    intro acc h
    rw [List.foldl_cons] at h
    rcases ih _ h with h | ⟨e', he', h⟩
    · split at h
      · rename_i hb
        rw [Nat.testBit_or, Nat.testBit_or, Nat.testBit_two_pow] at h
        simp only [Bool.or_eq_true, decide_eq_true_eq] at h
        rcases h with (h | h) | h
        · exact .inl h
        · exact .inr ⟨e, List.mem_cons_self .., hb, .inl h⟩
        · exact .inr ⟨e, List.mem_cons_self .., hb, .inr h⟩
      · exact .inl h
    · exact .inr ⟨e', List.mem_cons_of_mem _ he', h⟩
theorem waits_listed {tab : Array Nat} {listed : Array Bool} (ht : tabOk md ops tab = true) (hc : Closed md ops listed) {i : Nat} : ∀ (j : Nat), j < ops.size → (tab.getD j 0).testBit i = true →
    (∀ o, ops[j]? = some o → ∀ e ∈ o.after, Region.binds md e = true → listed.getD e.on false = true) → listed.getD i false = true := by
  intro j
  induction j using Nat.strongRecOn with
  | ind j ih =>
    intro hj hb hp
    have h0 := (List.all_eq_true.1 ht) j (by simpa using hj)
    simp only [Bool.and_eq_true, beq_iff_eq] at h0
    obtain ⟨h1, h2⟩ := h0
    have ho : ops[j]? = some ops[j] := Array.getElem?_eq_getElem hj
    rw [h1] at hb
    simp only [maskOf, ho, Option.map_some, Option.getD_some] at hb h2
    rcases mask_bit _ _ hb with h | ⟨e, he, hbd, h⟩
    · simp at h
    · have hl := hp _ ho e (by simpa using he) hbd
      rcases h with rfl | h
      · exact hl
      · have hlt : e.on < j := by
          have := (List.all_eq_true.1 h2) e he
          simpa [hbd] using this
        exact ih e.on hlt (by omega) h fun o' ho' => hc e.on o' ho' hl
theorem Closed.set {listed : Array Bool} (hc : Closed md ops listed) {i : Nat} (hi : i ∈ Region.ready md ops listed) : Closed md ops (listed.setIfInBounds i true) := by
  intro j o ho hl e he hb
  by_cases hj : j = i
  · subst hj
    obtain ⟨_, o', ho', hall⟩ := mem_ready.1 hi
    rw [ho] at ho'
    cases ho'
    exact getD_set_true (hall e he hb)
  · rw [getD_set_ne false (Ne.symm hj)] at hl
    exact getD_set_true (hc j o ho hl e he hb)
theorem closed_start (n : Nat) : Closed md ops (Array.replicate n false) := by
  intro j o _ hl
  rcases Nat.lt_or_ge j n with h | h
  · simp [h] at hl
  · simp [Nat.not_lt.2 h] at hl

theorem wpAnyX_first {flag : Nat → Bool} {tab : Array Nat} (htab : tabOk md ops tab = true) {i : Nat} {oi : Oper} {v : Value} (hi : ops[i]? = some oi) (hsel : ∀ (j : Nat) (o : Oper) cs b, ops[j]? = some o → o.op ≠ .select cs b)
    (hQ : ∀ c a w, Q (.panic c) (a.put oi.dst v) w → Q (.panic c) a w) (hflag : ∀ j, j < ops.size → j ≠ i → flag j = false → (tab.getD j 0).testBit i = true ∨ (tab.getD i 0).testBit j = true) :
    ∀ (fuel : Nat) (listed : Array Bool) (a : Act) (w : World), Closed md ops listed →
      (∀ j oj, ops[j]? = some oj → j ≠ i → listed.getD j true = false → (∀ e ∈ oj.after, Region.binds md e = true → e.on ≠ i) → oi.apart ops oj = true) →
      i ∈ Region.ready md ops listed → YieldsX P ops F oi v a w →
      wpAnyX P md ops Q F flag fuel (listed.setIfInBounds i true) (a.put oi.dst v) w → wpAnyX P md ops Q F flag (fuel + 1) listed a w := by
  intro fuel
  induction fuel with
  | zero =>
    intro listed a w _ _ hr hy H
    refine ⟨fun h => (by rw [h] at hr; cases hr), fun j hj => ?_⟩
    by_cases hji : j = i
    · subst hji; exact hy.wpOp hi ⟨fun _ => Ext.refl _ _, H⟩
    · have := ready_mono hj hji
      rw [H.1] at this
      cases this
  | succ fuel ih =>
    intro listed a w hcl hfree hr hy H
    refine ⟨fun h => (by rw [h] at hr; cases hr), fun j hj => ?_⟩
    by_cases hji : j = i
    · subst hji; exact hy.wpOp hi ⟨fun _ => Ext.refl _ _, H⟩
    · have h1 := H.2 j (ready_mono hj hji)
      obtain ⟨hjun, oj, hoj, hall⟩ := mem_ready.1 hj
      have h0 := (mem_ready.1 hr).1
      have hun : listed.getD i false = false := by
        rcases Nat.lt_or_ge i listed.size with h' | h'
        · simp [h'] at h0 ⊢; exact h0
        · simp [Array.getElem?_eq_none h'] at h0
      have hnot : ∀ e ∈ oj.after, Region.binds md e = true → e.on ≠ i := fun e he hb heq => by
        have h1 := hall e he hb
        rw [heq, hun] at h1
        cases h1
      have hfl : flag j = true := by
        cases hfj : flag j with
        | true => rfl
        | false =>
          rcases hflag j (Array.getElem?_eq_some_iff.1 hoj).1 hji hfj with hw | hw
          · have := waits_listed htab hcl j (Array.getElem?_eq_some_iff.1 hoj).1 hw fun o ho e he hb => by rw [hoj] at ho; cases ho; exact hall e he hb
            rw [hun] at this
            cases this
          · obtain ⟨_, o2, ho2, hall2⟩ := mem_ready.1 hr
            have := waits_listed htab hcl i (Array.getElem?_eq_some_iff.1 ho2).1 hw fun o ho e he hb => by rw [ho2] at ho; cases ho; exact hall2 e he hb
            rcases Nat.lt_or_ge j listed.size with h' | h'
            · simp [h'] at this hjun
              rw [this] at hjun
              cases hjun
            · simp [Array.getElem?_eq_none h'] at this
      have h2 := wpOp_putX hoj (hfree j oj hoj hji hjun hnot) (fun cs b => hsel i oi cs b hi) (fun cs b => hsel j oj cs b hoj) hQ hy h1
      have hfree' : ∀ k ok, ops[k]? = some ok → k ≠ i → (listed.setIfInBounds j true).getD k true = false →
          (∀ e ∈ ok.after, Region.binds md e = true → e.on ≠ i) → oi.apart ops ok = true := fun k ok hk hki hun hno => by
        refine hfree k ok hk hki ?_ hno
        by_cases hjk : j = k
        · subst hjk; exact hjun
        · rw [getD_set_ne true hjk] at hun; exact hun
      refine wpOp_mono (fun a' w' h3 => ⟨h3.2.1, ih (listed.setIfInBounds j true) a' w' (hcl.set hj) hfree' (ready_mono hr (Ne.symm hji)) (h3.1.later (h3.2.1 hfl)) ?_⟩) h2
      rw [Array.setIfInBounds_comm _ _ hji]
      exact h3.2.2
end
end Go.Proofs.Ytokeanadhihlfaa


namespace Go.Proofs.Ytokeanadhihlfaa

section
variable {P : Program} {ops : Array Oper} {Q : Exit → Act → World → Prop} {md : Region.Mode} {F : Nat → Prop}

def opAt (ops : Array Oper) (i : Nat) : Oper := ops.getD i default
theorem opAt_of {i : Nat} (h : i < ops.size) : ops[i]? = some (opAt ops i) := by
  simp [opAt, h]

theorem Act.put_size (a : Act) (d : Option Tmp) (v : Value) : (a.put d v).tmps.size = a.tmps.size := by
  cases d <;> simp [Act.put]
theorem Act.put_same (a : Act) (d : Tmp) (v : Value) (h : d < a.tmps.size) : (a.put (some d) v).tmps[d]? = some v := by
  simp [Act.put, h]
theorem Act.put_far (a : Act) {d e : Tmp} (v : Value) (h : e ≠ d) : (a.put (some e) v).tmps[d]? = a.tmps[d]? := by
  simp [Act.put, Array.getElem?_setIfInBounds_ne h]

theorem still_split {w : World} {K : Act → Prop} {o : Oper} {l : List Oper} {a : Act} (h : wpStill P ops w K (o :: l) a) :
    ∃ v, YieldsAt P ops w o v a ∧ wpStill P ops w K l (a.put o.dst v) := by
  unfold wpStill at h
  by_cases hw : Region.wanted o (yielded ops a.tmps) = true
  · simp only [hw, if_true, Oper.still] at h
    generalize hr : (execOp a.eval o).run P w = r at h
    cases r with
    | ok n w' =>
      cases n <;> simp only [Oper.stillUpon] at h
      case value u => obtain ⟨rfl, h2⟩ := h; exact ⟨u, .inl ⟨hw, .inl hr⟩, h2⟩
      case skip => obtain ⟨rfl, h2⟩ := h; exact ⟨undef, .inl ⟨hw, .inr (.inl ⟨hr, rfl⟩)⟩, h2⟩
      case enter f args => obtain ⟨rfl, v, hc, h2⟩ := h; exact ⟨v, .inl ⟨hw, .inr (.inr ⟨f, args, hr, hc⟩)⟩, h2⟩
    | halt x w' => simp only [Oper.stillUpon] at h
  · simp only [hw] at h
    exact ⟨undef, .inr ⟨by simpa using hw, rfl⟩, h⟩

theorem still_slot {w : World} {A : Act} {d : Tmp} : ∀ (l : List Oper) (a : Act), (∀ o ∈ l, o.dst ≠ some d) → wpStill P ops w (fun a' => a' = A) l a → A.tmps[d]? = a.tmps[d]? := by
  intro l
  induction l with
  | nil => intro a _ h; rw [← (show a = A from h)]
  | cons o l ih =>
    intro a hd h
    obtain ⟨v, _, h2⟩ := still_split h
    rw [ih _ (fun o' ho' => hd o' (List.mem_cons_of_mem _ ho')) h2]
    cases ho : o.dst with
    | none => rfl
    | some e => exact Act.put_far a v (fun he => hd o (List.mem_cons_self ..) (by rw [ho, he]))

theorem still_take {w : World} {A : Act} {o : Oper} {l : List Oper} {a : Act} {d : Tmp} (h : ∀ w', Ext F w w' → wpStill P ops w' (fun a' => a' = A) (o :: l) a)
    (hd : o.dst = some d) (hsz : d < a.tmps.size) (hnd : ∀ o' ∈ l, o'.dst ≠ some d) :
    ∃ v, YieldsX P ops F o v a w ∧ ∀ w', Ext F w w' → wpStill P ops w' (fun a' => a' = A) l (a.put o.dst v) := by
  obtain ⟨v, hy, hs⟩ := still_split (h w (Ext.refl _ _))
  have e0 := still_slot l _ hnd hs
  rw [hd, Act.put_same a d v hsz] at e0
  have hall : ∀ w', Ext F w w' → YieldsAt P ops w' o v a ∧ wpStill P ops w' (fun a' => a' = A) l (a.put o.dst v) := by
    intro w' hx
    obtain ⟨v', hy', hs'⟩ := still_split (h w' hx)
    have e1 := still_slot l _ hnd hs'
    rw [hd, Act.put_same a d v' hsz, e0] at e1
    obtain rfl : v = v' := by injection e1
    exact ⟨hy', hs'⟩
  exact ⟨v, fun w' hx => (hall w' hx).1, fun w' hx => (hall w' hx).2⟩

theorem wpOp_size {j : Nat} {K : Act → World → Prop} {a : Act} {w : World} (h : wpOp P ops Q j K a w) :
    wpOp P ops Q j (fun a' w' => a'.tmps.size = a.tmps.size ∧ K a' w') a w := by
  unfold wpOp at *
  cases hj : ops[j]? with
  | none => rw [hj] at h; exact ⟨rfl, h⟩
  | some o =>
    rw [hj] at h
    simp only at h ⊢
    split
    · rename_i hw
      simp only [hw, if_true] at h
      rcases h with h | h
      case inr => exact .inr h
      refine .inl ?_
      unfold Oper.wp at *
      generalize (execOp a.eval o).run P w = r at *
      cases r with
      | ok n w' =>
        cases n <;> simp only [Oper.upon] at h ⊢
        case value u => exact ⟨Act.put_size .., h⟩
        case skip => exact ⟨Act.put_size .., h⟩
        case defer d => exact ⟨Act.put_size .., h⟩
        case enter f args =>
          refine Calls.mono h fun e w'' he => ?_
          cases e with
          | returned u => exact ⟨Act.put_size .., he⟩
          | panicked c => exact he
          | outgrown => exact he
        case row row args => exact Rows.mono h fun u w'' he => ⟨Act.put_size .., he⟩
      | halt x w' => cases x <;> simp only [Oper.upon] at h ⊢ <;> exact h
    · rename_i hw
      simp only [hw] at h
      exact ⟨Act.put_size .., h⟩

/-- A step: steady operations, then, maybe, one other (with its flag: is the world behind it to extend the world before it?). -/
abbrev Step := List Nat × Option (Nat × Bool)

def takeOk (md : Region.Mode) (ops : Array Oper) (tab : Array Nat) (flags : List (Nat × Bool)) (n : Nat) : List Nat → Array Bool → Option (Array Bool)
  | [], listed => some listed
  | i :: l, listed =>
    if (Region.ready md ops listed).contains i && Region.free md ops listed i && decide (i < ops.size) &&
      (match (opAt ops i).dst with | some d => decide (d < n) && l.all (fun k => (opAt ops k).dst != some d) | none => false) &&
      (List.range ops.size).all (fun j => j == i || ((flags.lookup j).getD true) || (tab.getD j 0).testBit i)
    then takeOk md ops tab flags n l (listed.setIfInBounds i true) else none
def linOk (md : Region.Mode) (ops : Array Oper) (tab : Array Nat) (flags : List (Nat × Bool)) (n : Nat) : List Step → Array Bool → Bool
  | [], listed => (Region.ready md ops listed).isEmpty
  | (l, oj) :: rest, listed =>
    match takeOk md ops tab flags n l listed with
    | none => false
    | some listed' =>
      match oj with
      | none => linOk md ops tab flags n rest listed'
      | some (j, b) => Region.ready md ops listed' == [j] && (flags.lookup j).getD true == b && linOk md ops tab flags n rest (listed'.setIfInBounds j true)
def flagsOf (steps : List Step) : List (Nat × Bool) := steps.filterMap (·.2)
def lenOf : List Step → Nat
  | [] => 0
  | (l, oj) :: rest => l.length + (if oj.isSome then 1 else 0) + lenOf rest

/-- The walk in one order. -/
def Lin (P : Program) (ops : Array Oper) (Q : Exit → Act → World → Prop) (F : Nat → Prop) : List Step → Act → World → Prop
  | [], a, w => Q .normal a w
  | (l, none) :: rest, a, w => ∃ A, (∀ w', Ext F w w' → wpStill P ops w' (fun a' => a' = A) (l.map (opAt ops)) a) ∧ Lin P ops Q F rest A w
  | (l, some (j, true)) :: rest, a, w => ∃ A, (∀ w', Ext F w w' → wpStill P ops w' (fun a' => a' = A) (l.map (opAt ops)) a) ∧
      wpList P ops (Exit.then (fun a' w' => Ext F w w' ∧ Lin P ops Q F rest a' w') Q) [opAt ops j] A w
  | (l, some (j, false)) :: rest, a, w => ∃ A, (∀ w', Ext F w w' → wpStill P ops w' (fun a' => a' = A) (l.map (opAt ops)) a) ∧
      wpList P ops (Exit.then (fun a' w' => Lin P ops Q F rest a' w') Q) [opAt ops j] A w

theorem wpOp_of_one {j : Nat} (hj : j < ops.size) {K : Act → World → Prop} {a : Act} {w : World}
    (h : wpList P ops (Exit.then K Q) [opAt ops j] a w) : wpOp P ops Q j K a w := by
  unfold wpOp
  rw [opAt_of hj]
  unfold wpList at h
  simp only
  have hnil : ∀ a' w', wpList P ops (Exit.then K Q) [] a' w' → K a' w' := fun _ _ h => h
  split
  · rename_i hw
    rw [if_pos hw] at h
    rcases h with h | ⟨h1, h2⟩
    · refine .inl ?_
      unfold Oper.wp at *
      generalize (execOp a.eval (opAt ops j)).run P w = r at *
      cases r with
      | ok n w' =>
        cases n <;> simp only [Oper.upon] at h ⊢
        case value u => exact hnil _ _ h
        case skip => exact hnil _ _ h
        case defer d => exact hnil _ _ h
        case enter f args =>
          refine Calls.mono h fun e w'' he => ?_
          cases e with
          | returned u => exact hnil _ _ he
          | panicked c => exact he
          | outgrown => exact he
        case row row args => exact Rows.mono h fun u w'' he => hnil _ _ he
      | halt x w' => cases x <;> simp only [Oper.upon] at h ⊢ <;> exact h
    · exact .inr ⟨h1, h2⟩
  · rename_i hw
    rw [if_neg hw] at h
    exact hnil _ _ h

theorem take_sound {tab : Array Nat} (htab : tabOk md ops tab = true) {flags : List (Nat × Bool)} {n : Nat} (hs : Region.noSelect ops = true) (hQ : ∀ c a w (d : Option Tmp) (v : Value), Q (.panic c) (a.put d v) w → Q (.panic c) a w) {A : Act} {w : World} {fuel : Nat} :
    ∀ (l : List Nat) (listed listed' : Array Bool) (a : Act), takeOk md ops tab flags n l listed = some listed' → Closed md ops listed → a.tmps.size = n →
      (∀ w', Ext F w w' → wpStill P ops w' (fun a' => a' = A) (l.map (opAt ops)) a) →
      (A.tmps.size = n → Closed md ops listed' → wpAnyX P md ops Q F (fun j => (flags.lookup j).getD true) fuel listed' A w) → wpAnyX P md ops Q F (fun j => (flags.lookup j).getD true) (l.length + fuel) listed a w := by
  intro l
  induction l with
  | nil =>
    intro listed listed' a h hc hn hst H
    obtain rfl : listed = listed' := by simpa [takeOk] using h
    have hA : a = A := hst w (Ext.refl _ _)
    subst hA
    simpa using H hn hc
  | cons i l ih =>
    intro listed listed' a h hc hn hst H
    cases hdst : (opAt ops i).dst with
    | none => simp [takeOk, hdst] at h
    | some d =>
      simp only [takeOk, hdst] at h
      split at h
      case isFalse => cases h
      rename_i hcond
      simp only [Bool.and_eq_true, decide_eq_true_eq, List.all_eq_true, bne_iff_ne] at hcond
      obtain ⟨⟨⟨⟨hr, hf⟩, hlt⟩, hdn, hnd⟩, hfl⟩ := hcond
      have hsz : d < a.tmps.size := by rw [hn]; exact hdn
      obtain ⟨v, hy, hst'⟩ := still_take (d := d) (a := a) (o := opAt ops i) (l := l.map (opAt ops)) hst hdst hsz (by
        intro o' ho'
        obtain ⟨k, hk, rfl⟩ := List.mem_map.1 ho'
        exact hnd k hk)
      have hr' : i ∈ Region.ready md ops listed := by simpa using hr
      have := ih (listed.setIfInBounds i true) listed' (a.put (opAt ops i).dst v) h (hc.set hr') (by rw [Act.put_size]; exact hn) hst' H
      have e : (i :: l).length + fuel = (l.length + fuel) + 1 := by simp; omega
      rw [e]
      refine wpAnyX_first (v := v) htab (opAt_of hlt) (Region.noSelect_spec hs) (fun c a w => hQ c a w _ _) ?_ _ listed a w hc (Region.free_spec (opAt_of hlt) hf) hr' hy this
      intro j hj hji hfj
      have := hfl j (by simpa using hj)
      simp only [Bool.or_eq_true, beq_iff_eq] at this
      rcases this with (h | h) | h
      · exact absurd h hji
      · rw [h] at hfj; cases hfj
      · exact .inl h

theorem wpAnyX_done {flag : Nat → Bool} {listed : Array Bool} {a : Act} {w : World} (hr : Region.ready md ops listed = []) (h : Q .normal a w) :
    ∀ fuel, wpAnyX P md ops Q F flag fuel listed a w
  | 0 => ⟨hr, h⟩
  | _ + 1 => ⟨fun _ => h, by rw [hr]; simp⟩

theorem lin_sound {tab : Array Nat} (htab : tabOk md ops tab = true) {flags : List (Nat × Bool)} {n : Nat} (hs : Region.noSelect ops = true) (hQ : ∀ c a w (d : Option Tmp) (v : Value), Q (.panic c) (a.put d v) w → Q (.panic c) a w) :
    ∀ (steps : List Step) (listed : Array Bool) (a : Act) (w : World), linOk md ops tab flags n steps listed = true → Closed md ops listed → a.tmps.size = n →
      Lin P ops Q F steps a w → wpAnyX P md ops Q F (fun j => (flags.lookup j).getD true) (lenOf steps) listed a w := by
  intro steps
  induction steps with
  | nil =>
    intro listed a w h _ _ H
    exact wpAnyX_done (by simpa [linOk] using h) H _
  | cons s rest ih =>
    obtain ⟨l, oj⟩ := s
    intro listed a w h hc hn H
    unfold linOk at h
    cases ht : takeOk md ops tab flags n l listed with
    | none => rw [ht] at h; cases h
    | some listed' =>
      rw [ht] at h
      cases oj with
      | none =>
        obtain ⟨A, hst, H⟩ := H
        have e : lenOf ((l, none) :: rest) = l.length + lenOf rest := by simp [lenOf]
        rw [e]
        exact take_sound htab hs hQ l listed listed' a ht hc hn hst fun hA hc' => ih listed' A w h hc' hA H
      | some jb =>
        obtain ⟨j, b⟩ := jb
        simp only [Bool.and_eq_true, beq_iff_eq] at h
        obtain ⟨⟨hr, hfl⟩, h⟩ := h
        have hj : j ∈ Region.ready md ops listed' := by rw [hr]; simp
        have hjlt : j < ops.size := by
          obtain ⟨_, o, ho, _⟩ := mem_ready.1 hj
          exact (Array.getElem?_eq_some_iff.1 ho).1
        have e : lenOf ((l, some (j, b)) :: rest) = l.length + (lenOf rest + 1) := by simp [lenOf]; omega
        rw [e]
        have key : ∃ A, (∀ w', Ext F w w' → wpStill P ops w' (fun a' => a' = A) (l.map (opAt ops)) a) ∧
            wpOp P ops Q j (fun a' w' => (b = true → Ext F w w') ∧ Lin P ops Q F rest a' w') A w := by
          cases b with
          | true =>
            obtain ⟨A, hst, H⟩ := H
            exact ⟨A, hst, wpOp_mono (fun a' w' h => ⟨fun _ => h.1, h.2⟩) (wpOp_of_one hjlt H)⟩
          | false =>
            obtain ⟨A, hst, H⟩ := H
            exact ⟨A, hst, wpOp_mono (fun a' w' h => ⟨fun h => (by cases h), h⟩) (wpOp_of_one hjlt H)⟩
        obtain ⟨A, hst, H⟩ := key
        refine take_sound htab hs hQ l listed listed' a ht hc hn hst fun hA hc' => ⟨fun h0 => (by rw [hr] at h0; cases h0), fun i hi => ?_⟩
        obtain rfl : i = j := by rw [hr] at hi; simpa using hi
        refine wpOp_mono (fun a' w' h' => ⟨fun hf => h'.2.1 (by rw [← hfl]; exact hf), ih _ a' w' h (hc'.set hj) (h'.1.trans hA) h'.2.2⟩) (wpOp_size H)

/-- ONE ORDER SERVES FOR ALL. -/
theorem wp_draw (F : Nat → Prop) (steps : List Step) (tab : Array Nat) {id : Nat} {a : Act} {w : World} (hm : P.follows .mixedOrders = true)
    (hs : (Region.noSelect ops && tabOk .any ops tab && linOk .any ops tab (flagsOf steps) a.tmps.size steps (Array.replicate ops.size false) && lenOf steps == ops.size) = true)
    (hQ : ∀ c a w (d : Option Tmp) (v : Value), Q (.panic c) (a.put d v) w → Q (.panic c) a w)
    (h : Lin P ops Q F steps a w.drew) : (Code.region id ops true).wp P Q a w := by
  simp only [Bool.and_eq_true, beq_iff_eq] at hs
  obtain ⟨⟨⟨hs, htab⟩, hl⟩, hlen⟩ := hs
  refine wp_region_any hm (wpAny_of_X (F := F) (flag := fun j => ((flagsOf steps).lookup j).getD true) _ _ _ _ ?_)
  have key := lin_sound (F := F) htab hs hQ steps _ a _ hl (closed_start _) rfl h
  rw [hlen] at key
  exact key

theorem lin_done {a : Act} {w : World} (h : Q .normal a w) : Lin P ops Q F [] a w := h
theorem lin_none {l : List Nat} {rest : List Step} {a A : Act} {w : World} (h1 : ∀ w', Ext F w w' → wpStill P ops w' (fun a' => a' = A) (l.map (opAt ops)) a) (h2 : Lin P ops Q F rest A w) : Lin P ops Q F ((l, none) :: rest) a w := ⟨A, h1, h2⟩
theorem lin_true {l : List Nat} {j : Nat} {rest : List Step} {a A : Act} {w : World} (h1 : ∀ w', Ext F w w' → wpStill P ops w' (fun a' => a' = A) (l.map (opAt ops)) a)
    (h2 : wpList P ops (Exit.then (fun a' w' => Ext F w w' ∧ Lin P ops Q F rest a' w') Q) [opAt ops j] A w) : Lin P ops Q F ((l, some (j, true)) :: rest) a w := ⟨A, h1, h2⟩
theorem lin_false {l : List Nat} {j : Nat} {rest : List Step} {a A : Act} {w : World} (h1 : ∀ w', Ext F w w' → wpStill P ops w' (fun a' => a' = A) (l.map (opAt ops)) a)
    (h2 : wpList P ops (Exit.then (fun a' w' => Lin P ops Q F rest a' w') Q) [opAt ops j] A w) : Lin P ops Q F ((l, some (j, false)) :: rest) a w := ⟨A, h1, h2⟩
theorem lin_true0 {j : Nat} {rest : List Step} {a : Act} {w : World}
    (h2 : wpList P ops (Exit.then (fun a' w' => Ext F w w' ∧ Lin P ops Q F rest a' w') Q) [opAt ops j] a w) : Lin P ops Q F (([], some (j, true)) :: rest) a w := ⟨a, fun _ _ => rfl, h2⟩
theorem lin_false0 {j : Nat} {rest : List Step} {a : Act} {w : World}
    (h2 : wpList P ops (Exit.then (fun a' w' => Lin P ops Q F rest a' w') Q) [opAt ops j] a w) : Lin P ops Q F (([], some (j, false)) :: rest) a w := ⟨a, fun _ _ => rfl, h2⟩
theorem wpList_then {l : List Oper} {Q' : Exit → Act → World → Prop} : ∀ (l' : List Oper) (a : Act) (w : World), wpList P ops Q (l' ++ l) a w →
    (∀ a w, wpList P ops Q l a w → Q' .normal a w) → (∀ e a w, e ≠ .normal → Q e a w → Q' e a w) → wpList P ops Q' l' a w := by
  intro l'
  induction l' with
  | nil => intro a w h h1 _; exact h1 _ _ h
  | cons o l' ih =>
    intro a w h h1 h2
    unfold wpList at h ⊢
    rw [List.cons_append] at h
    simp only at h
    split
    · rename_i hw
      rw [if_pos hw] at h
      rcases h with h | ⟨h3, a', w', h4⟩
      · refine .inl ?_
        unfold Oper.wp at *
        generalize (execOp a.eval o).run P w = r at *
        cases r with
        | ok n w' =>
          cases n <;> simp only [Oper.upon] at h ⊢
          case value u => exact ih _ _ h h1 h2
          case skip => exact ih _ _ h h1 h2
          case defer d => exact ih _ _ h h1 h2
          case enter f args =>
            refine Calls.mono h fun e w'' he => ?_
            cases e with
            | returned u => exact ih _ _ he h1 h2
            | panicked c => exact h2 _ _ _ (by simp) he
            | outgrown => obtain ⟨a', w', h4⟩ := he; exact ⟨a', w', h2 _ _ _ (by simp) h4⟩
          case row row args => exact Rows.mono h fun u w'' he => ih _ _ he h1 h2
        | halt x w' =>
          cases x <;> simp only [Oper.upon] at h ⊢
          case panic v => exact h2 _ _ _ (by simp) h
      · exact .inr ⟨h3, a', w', h2 _ _ _ (by simp) h4⟩
    · rename_i hw
      rw [if_neg hw] at h
      exact ih _ _ h h1 h2
/-- What is left is in one forced order, and no steady operation waits: it is walked as it stands. -/
theorem lin_tail : ∀ (js : List Nat) {a : Act} {w : World}, wpList P ops Q (js.map (opAt ops)) a w → Lin P ops Q F (js.map fun j => ([], some (j, false))) a w
  | [], _, _, h => h
  | j :: js, a, w, h => by
    refine lin_false0 ?_
    refine wpList_then (l := js.map (opAt ops)) [opAt ops j] a w h (fun a' w' h' => ?_) (fun e a' w' he h' => ?_)
    · exact lin_tail js h'
    · cases e <;> first | exact absurd rfl he | exact h'
end
end Go.Proofs.Ytokeanadhihlfaa


set_option linter.all false
namespace Go.Proofs.Ytokeanadhihlfaa
/-- Operations that read no memory. -/
def pureOp : Op → Bool
  | .move _ | .assign _ | .slice .. | .extract .. => true
  | _ => false
def pureN (ops : Array Oper) (l : List Nat) : Bool := l.all fun i => pureOp (opAt ops i).op
section
variable {P : Program} {ops : Array Oper} {Q : Exit → Act → World → Prop} {md : Region.Mode} {F : Nat → Prop}
def YieldsAll (P : Program) (ops : Array Oper) (o : Oper) (v : Value) (a : Act) : Prop := ∀ w', YieldsAt P ops w' o v a
theorem YieldsAll.of_same {o : Oper} {v : Value} {a a' : Act} (hy : YieldsAll P ops o v a) (he : execOp a'.eval o = execOp a.eval o)
    (hw : Region.wanted o (yielded ops a'.tmps) = Region.wanted o (yielded ops a.tmps)) : YieldsAll P ops o v a' :=
  fun w' => (hy w').of_same he hw
theorem YieldsAll.toX {o : Oper} {v : Value} {a : Act} (hy : YieldsAll P ops o v a) (w : World) : YieldsX P ops F o v a w := fun w' _ => hy w'
theorem wpOp_putA {j : Nat} {oi oj : Oper} {v : Value} (hj : ops[j]? = some oj) (hap : oi.apart ops oj = true)
    (hsi : ∀ cs b, oi.op ≠ .select cs b) (hsj : ∀ cs b, oj.op ≠ .select cs b)
    (hQ : ∀ c a w, Q (.panic c) (a.put oi.dst v) w → Q (.panic c) a w) {K : Act → World → Prop} {a : Act} {w : World}
    (hy : YieldsAll P ops oi v a) (h : wpOp P ops Q j K (a.put oi.dst v) w) :
    wpOp P ops Q j (fun a' w' => YieldsAll P ops oi v a' ∧ K (a'.put oi.dst v) w') a w := by
  obtain ⟨h1, h2, h3⟩ := Oper.apart_spec hap
  have keep : ∀ (a : Act), YieldsAll P ops oi v a → ∀ u, YieldsAll P ops oi v (a.put oj.dst u) := fun a hy u =>
    hy.of_same (execOp_put oi hsi a oj.dst u h3) (wanted_put oi a oj.dst u h3)
  have keepD : ∀ d, YieldsAll P ops oi v { a with defers := d :: a.defers } := fun d => hy.of_same rfl rfl
  unfold wpOp at *
  simp only [hj] at *
  rw [wanted_put oj a oi.dst v h1] at h
  split
  · rename_i hw
    simp only [hw, if_true] at h
    rcases h with h | ⟨hasks, hlets⟩
    case inr => exact .inr ⟨by unfold Oper.asks at *; rw [execOp_put oj hsj a oi.dst v h1] at hasks; exact hasks, hlets⟩
    refine .inl ?_
    unfold Oper.wp at *
    rw [execOp_put oj hsj a oi.dst v h1] at h
    generalize (execOp a.eval oj).run P w = r at *
    cases r with
    | ok n w' =>
      cases n <;> simp only [Oper.upon] at h ⊢
      case value u => exact ⟨keep a hy u, by rw [← Act.put_comm a v u h2]; exact h⟩
      case skip => exact ⟨keep a hy _, by rw [← Act.put_comm a v undef h2]; exact h⟩
      case defer d =>
        refine ⟨(keepD d).of_same (execOp_put oi hsi _ oj.dst undef h3) (wanted_put oi _ oj.dst undef h3), ?_⟩
        rw [← Act.put_comm _ v undef h2, ← Act.put_defers]
        exact h
      case enter f args =>
        refine Calls.mono h fun e w'' he => ?_
        cases e with
        | returned u => exact ⟨keep a hy u, by rw [← Act.put_comm a v u h2]; exact he⟩
        | panicked c => exact hQ _ _ _ he
        | outgrown => exact he
      case row row args => exact Rows.mono h fun u w'' he => ⟨keep a hy u, by rw [← Act.put_comm a v u h2]; exact he⟩
    | halt x w' =>
      cases x <;> simp only [Oper.upon] at h ⊢
      case panic u => exact hQ _ _ _ h
  · rename_i hw
    simp only [hw] at h
    exact ⟨keep a hy _, by rw [← Act.put_comm a v undef h2]; exact h⟩

theorem wpAnyX_firstA {flag : Nat → Bool} {i : Nat} {oi : Oper} {v : Value} (hi : ops[i]? = some oi) (hsel : ∀ (j : Nat) (o : Oper) cs b, ops[j]? = some o → o.op ≠ .select cs b)
    (hQ : ∀ c a w, Q (.panic c) (a.put oi.dst v) w → Q (.panic c) a w) :
    ∀ (fuel : Nat) (listed : Array Bool) (a : Act) (w : World), Closed md ops listed →
      (∀ j oj, ops[j]? = some oj → j ≠ i → listed.getD j true = false → (∀ e ∈ oj.after, Region.binds md e = true → e.on ≠ i) → oi.apart ops oj = true) →
      i ∈ Region.ready md ops listed → YieldsAll P ops oi v a →
      wpAnyX P md ops Q F flag fuel (listed.setIfInBounds i true) (a.put oi.dst v) w → wpAnyX P md ops Q F flag (fuel + 1) listed a w := by
  intro fuel
  induction fuel with
  | zero =>
    intro listed a w _ _ hr hy H
    refine ⟨fun h => (by rw [h] at hr; cases hr), fun j hj => ?_⟩
    by_cases hji : j = i
    · subst hji; exact (hy.toX (F := F) w).wpOp hi ⟨fun _ => Ext.refl _ _, H⟩
    · have := ready_mono hj hji
      rw [H.1] at this
      cases this
  | succ fuel ih =>
    intro listed a w hcl hfree hr hy H
    refine ⟨fun h => (by rw [h] at hr; cases hr), fun j hj => ?_⟩
    by_cases hji : j = i
    · subst hji; exact (hy.toX (F := F) w).wpOp hi ⟨fun _ => Ext.refl _ _, H⟩
    · have h1 := H.2 j (ready_mono hj hji)
      obtain ⟨hjun, oj, hoj, hall⟩ := mem_ready.1 hj
      have h0 := (mem_ready.1 hr).1
      have hun : listed.getD i false = false := by
        rcases Nat.lt_or_ge i listed.size with h' | h'
        · simp [h'] at h0 ⊢; exact h0
        · simp [Array.getElem?_eq_none h'] at h0
      have hnot : ∀ e ∈ oj.after, Region.binds md e = true → e.on ≠ i := fun e he hb heq => by
        have h1 := hall e he hb
        rw [heq, hun] at h1
        cases h1
      have h2 := wpOp_putA hoj (hfree j oj hoj hji hjun hnot) (fun cs b => hsel i oi cs b hi) (fun cs b => hsel j oj cs b hoj) hQ hy h1
      have hfree' : ∀ k ok, ops[k]? = some ok → k ≠ i → (listed.setIfInBounds j true).getD k true = false →
          (∀ e ∈ ok.after, Region.binds md e = true → e.on ≠ i) → oi.apart ops ok = true := fun k ok hk hki hun hno => by
        refine hfree k ok hk hki ?_ hno
        by_cases hjk : j = k
        · subst hjk; exact hjun
        · rw [getD_set_ne true hjk] at hun; exact hun
      refine wpOp_mono (fun a' w' h3 => ⟨h3.2.1, ih (listed.setIfInBounds j true) a' w' (hcl.set hj) hfree' (ready_mono hr (Ne.symm hji)) h3.1 ?_⟩) h2
      rw [Array.setIfInBounds_comm _ _ hji]
      exact h3.2.2
theorem still_takeA (w : World) {A : Act} {o : Oper} {l : List Oper} {a : Act} {d : Tmp} (h : ∀ w', wpStill P ops w' (fun a' => a' = A) (o :: l) a)
    (hd : o.dst = some d) (hsz : d < a.tmps.size) (hnd : ∀ o' ∈ l, o'.dst ≠ some d) :
    ∃ v, YieldsAll P ops o v a ∧ ∀ w', wpStill P ops w' (fun a' => a' = A) l (a.put o.dst v) := by
  obtain ⟨v, hy, hs⟩ := still_split (h w)
  have e0 := still_slot l _ hnd hs
  rw [hd, Act.put_same a d v hsz] at e0
  have hall : ∀ w', YieldsAt P ops w' o v a ∧ wpStill P ops w' (fun a' => a' = A) l (a.put o.dst v) := by
    intro w'
    obtain ⟨v', hy', hs'⟩ := still_split (h w')
    have e1 := still_slot l _ hnd hs'
    rw [hd, Act.put_same a d v' hsz, e0] at e1
    obtain rfl : v = v' := by injection e1
    exact ⟨hy', hs'⟩
  exact ⟨v, fun w' => (hall w').1, fun w' => (hall w').2⟩

def takeOkT (md : Region.Mode) (ops : Array Oper) (tab : Array Nat) (flags : List (Nat × Bool)) (n : Nat) (pu : Bool) : List Nat → Array Bool → Option (Array Bool)
  | [], listed => some listed
  | i :: l, listed =>
    if (Region.ready md ops listed).contains i && Region.free md ops listed i && decide (i < ops.size) &&
      (match (opAt ops i).dst with | some d => decide (d < n) && l.all (fun k => (opAt ops k).dst != some d) | none => false) &&
      (pu || (List.range ops.size).all (fun j => j == i || ((flags.lookup j).getD true) || (tab.getD j 0).testBit i || (tab.getD i 0).testBit j))
    then takeOkT md ops tab flags n pu l (listed.setIfInBounds i true) else none
theorem take_soundT {tab : Array Nat} (htab : tabOk md ops tab = true) {flags : List (Nat × Bool)} {n : Nat} {pu : Bool} (hs : Region.noSelect ops = true) (hQ : ∀ c a w (d : Option Tmp) (v : Value), Q (.panic c) (a.put d v) w → Q (.panic c) a w) {A : Act} {w : World} {fuel : Nat} :
    ∀ (l : List Nat) (listed listed' : Array Bool) (a : Act), takeOkT md ops tab flags n pu l listed = some listed' → Closed md ops listed → a.tmps.size = n →
      (∀ w', (pu = true ∨ Ext F w w') → wpStill P ops w' (fun a' => a' = A) (l.map (opAt ops)) a) →
      (A.tmps.size = n → Closed md ops listed' → wpAnyX P md ops Q F (fun j => (flags.lookup j).getD true) fuel listed' A w) → wpAnyX P md ops Q F (fun j => (flags.lookup j).getD true) (l.length + fuel) listed a w := by
  intro l
  induction l with
  | nil =>
    intro listed listed' a h hc hn hst H
    obtain rfl : listed = listed' := by simpa [takeOkT] using h
    have hA : a = A := hst w (.inr (Ext.refl _ _))
    subst hA
    simpa using H hn hc
  | cons i l ih =>
    intro listed listed' a h hc hn hst H
    cases hdst : (opAt ops i).dst with
    | none => simp [takeOkT, hdst] at h
    | some d =>
      simp only [takeOkT, hdst] at h
      split at h
      case isFalse => cases h
      rename_i hcond
      simp only [Bool.and_eq_true, decide_eq_true_eq, Bool.or_eq_true, List.all_eq_true, bne_iff_ne] at hcond
      obtain ⟨⟨⟨⟨hr, hf⟩, hlt⟩, hdn, hnd⟩, hfl⟩ := hcond
      have hsz : d < a.tmps.size := by rw [hn]; exact hdn
      have hr' : i ∈ Region.ready md ops listed := by simpa using hr
      have e : (i :: l).length + fuel = (l.length + fuel) + 1 := by simp; omega
      have hnd' : ∀ o' ∈ l.map (opAt ops), o'.dst ≠ some d := by
        intro o' ho'
        obtain ⟨k, hk, rfl⟩ := List.mem_map.1 ho'
        exact hnd k hk
      rw [e]
      cases hpu : pu with
      | true =>
        subst hpu
        obtain ⟨v, hy, hst'⟩ := still_takeA (d := d) (a := a) (o := opAt ops i) (l := l.map (opAt ops)) w (fun w' => hst w' (.inl rfl)) hdst hsz hnd'
        have := ih (listed.setIfInBounds i true) listed' (a.put (opAt ops i).dst v) h (hc.set hr') (by rw [Act.put_size]; exact hn) (fun w' _ => hst' w') H
        exact wpAnyX_firstA (v := v) (opAt_of hlt) (Region.noSelect_spec hs) (fun c a w => hQ c a w _ _) _ listed a w hc (Region.free_spec (opAt_of hlt) hf) hr' hy this
      | false =>
        subst hpu
        obtain ⟨v, hy, hst'⟩ := still_take (F := F) (d := d) (a := a) (o := opAt ops i) (l := l.map (opAt ops)) (w := w) (fun w' hx => hst w' (.inr hx)) hdst hsz hnd'
        have := ih (listed.setIfInBounds i true) listed' (a.put (opAt ops i).dst v) h (hc.set hr') (by rw [Act.put_size]; exact hn) (fun w' hx => hst' w' (by rcases hx with hx | hx; cases hx; exact hx)) H
        refine wpAnyX_first (v := v) htab (opAt_of hlt) (Region.noSelect_spec hs) (fun c a w => hQ c a w _ _) ?_ _ listed a w hc (Region.free_spec (opAt_of hlt) hf) hr' hy this
        intro j hj hji hfj
        rcases hfl with hfl | hfl
        · cases hfl
        have := hfl j (by simpa using hj)
        simp only [Bool.or_eq_true, beq_iff_eq] at this
        rcases this with ((h | h) | h) | h
        · exact absurd h hji
        · rw [h] at hfj; cases hfj
        · exact .inl h
        · exact .inr h
end
end Go.Proofs.Ytokeanadhihlfaa


set_option linter.all false
namespace Go.Proofs.Ytokeanadhihlfaa
mutual
inductive PT where
  | node (l : List Nat) (alts : PTs)
inductive PTs where
  | nil
  | cons (j : Nat) (flag : Bool) (t : PT) (rest : PTs)
end
def PTs.js : PTs → List Nat
  | .nil => []
  | .cons j _ _ r => j :: r.js
section
variable {P : Program} {ops : Array Oper} {Q : Exit → Act → World → Prop} {md : Region.Mode} {F : Nat → Prop}
mutual
/-- Every path has k operations. -/
def lenT (k : Nat) : PT → Bool
  | .node l alts => decide (l.length ≤ k) && lenTs (k - l.length) true alts
def lenTs (k : Nat) (first : Bool) : PTs → Bool
  | .nil => !first || k == 0
  | .cons _ _ t r => decide (1 ≤ k) && lenT (k - 1) t && lenTs k false r
end
mutual
def treeOk (md : Region.Mode) (ops : Array Oper) (tab : Array Nat) (flags : List (Nat × Bool)) (n : Nat) : PT → Array Bool → Bool
  | .node l alts, listed => match takeOkT md ops tab flags n (pureN ops l) l listed with
    | none => false
    | some listed' => Region.ready md ops listed' == alts.js && treesOk md ops tab flags n alts listed'
def treesOk (md : Region.Mode) (ops : Array Oper) (tab : Array Nat) (flags : List (Nat × Bool)) (n : Nat) : PTs → Array Bool → Bool
  | .nil, _ => true
  | .cons j flag t r, listed => (flags.lookup j).getD true == flag && treeOk md ops tab flags n t (listed.setIfInBounds j true) && treesOk md ops tab flags n r listed
end
mutual
def LinT (P : Program) (ops : Array Oper) (Q : Exit → Act → World → Prop) (F : Nat → Prop) : PT → Act → World → Prop
  | .node l alts, a, w => ∃ A, (∀ w', (pureN ops l = true ∨ Ext F w w') → wpStill P ops w' (fun a' => a' = A) (l.map (opAt ops)) a) ∧ LinTs P ops Q F true alts A w
def LinTs (P : Program) (ops : Array Oper) (Q : Exit → Act → World → Prop) (F : Nat → Prop) (first : Bool) : PTs → Act → World → Prop
  | .nil, a, w => first = true → Q .normal a w
  | .cons j flag t r, a, w => wpList P ops (Exit.then (fun a' w' => (flag = true → Ext F w w') ∧ LinT P ops Q F t a' w') Q) [opAt ops j] a w ∧ LinTs P ops Q F false r a w
end
theorem LinT_node {l : List Nat} {alts : PTs} {a : Act} {w : World} (h : LinT P ops Q F (.node l alts) a w) : ∃ A, (∀ w', (pureN ops l = true ∨ Ext F w w') → wpStill P ops w' (fun a' => a' = A) (l.map (opAt ops)) a) ∧ LinTs P ops Q F true alts A w := by
  rw [LinT] at h
  exact h
theorem LinTs_nil {a : Act} {w : World} (h : LinTs P ops Q F true .nil a w) : Q .normal a w := by
  rw [LinTs] at h
  exact h rfl
theorem LinTs_cons {f : Bool} {j : Nat} {flag : Bool} {t : PT} {r : PTs} {a : Act} {w : World} (h : LinTs P ops Q F f (.cons j flag t r) a w) : wpList P ops (Exit.then (fun a' w' => (flag = true → Ext F w w') ∧ LinT P ops Q F t a' w') Q) [opAt ops j] a w ∧ LinTs P ops Q F false r a w := by
  rw [LinTs] at h
  exact h
mutual
theorem tree_sound {tab : Array Nat} (htab : tabOk md ops tab = true) {flags : List (Nat × Bool)} {n : Nat} (hs : Region.noSelect ops = true) (hQ : ∀ c a w (d : Option Tmp) (v : Value), Q (.panic c) (a.put d v) w → Q (.panic c) a w) :
    ∀ (t : PT) (k : Nat) (listed : Array Bool) (a : Act) (w : World), treeOk md ops tab flags n t listed = true → lenT k t = true → Closed md ops listed → a.tmps.size = n →
      LinT P ops Q F t a w → wpAnyX P md ops Q F (fun j => (flags.lookup j).getD true) k listed a w
  | .node l alts, k, listed, a, w, h, hk, hc, hn, H => by
    simp only [treeOk] at h
    cases ht : takeOkT md ops tab flags n (pureN ops l) l listed with
    | none => rw [ht] at h; cases h
    | some listed' =>
      rw [ht] at h
      simp only [Bool.and_eq_true, beq_iff_eq] at h
      obtain ⟨hr, hts⟩ := h
      obtain ⟨A, hst, H⟩ := LinT_node H
      simp only [lenT, Bool.and_eq_true, decide_eq_true_eq] at hk
      obtain ⟨hk1, hk2⟩ := hk
      obtain ⟨q, rfl⟩ : ∃ q, k = l.length + q := ⟨k - l.length, by omega⟩
      rw [Nat.add_sub_cancel_left] at hk2
      exact take_soundT htab hs hQ l listed listed' a ht hc hn hst fun hA hc' => trees_sound htab hs hQ alts q true listed' A w hts hk2 hc' hA H (fun _ => hr)
theorem trees_sound {tab : Array Nat} (htab : tabOk md ops tab = true) {flags : List (Nat × Bool)} {n : Nat} (hs : Region.noSelect ops = true) (hQ : ∀ c a w (d : Option Tmp) (v : Value), Q (.panic c) (a.put d v) w → Q (.panic c) a w) :
    ∀ (ts : PTs) (k : Nat) (first : Bool) (listed : Array Bool) (a : Act) (w : World), treesOk md ops tab flags n ts listed = true → lenTs k first ts = true → Closed md ops listed → a.tmps.size = n → LinTs P ops Q F first ts a w → (first = true → Region.ready md ops listed = ts.js) →
      (if first = true then wpAnyX P md ops Q F (fun j => (flags.lookup j).getD true) k listed a w else
        ∀ i ∈ ts.js, i ∈ Region.ready md ops listed → wpOp P ops Q i (fun a' w' => ((fun j => (flags.lookup j).getD true) i = true → Ext F w w') ∧ wpAnyX P md ops Q F (fun j => (flags.lookup j).getD true) (k - 1) (listed.setIfInBounds i true) a' w') a w)
  | .nil, k, first, listed, a, w, h, hk, hc, hn, H, hr => by
    cases first with
    | true => rw [if_pos rfl]; exact wpAnyX_done (by rw [hr rfl]; rfl) (LinTs_nil H) _
    | false => rw [if_neg (by simp)]; intro i hi; simp [PTs.js] at hi
  | .cons j flag t r, k, first, listed, a, w, h, hk, hc, hn, H, hr => by
    simp only [treesOk, Bool.and_eq_true, beq_iff_eq] at h
    obtain ⟨⟨hfl, ht⟩, htr⟩ := h
    simp only [lenTs, Bool.and_eq_true, decide_eq_true_eq] at hk
    obtain ⟨⟨hk0, hk1⟩, hk2⟩ := hk
    obtain ⟨H1, H2⟩ := LinTs_cons H
    have ihr := trees_sound htab hs hQ r k false listed a w htr hk2 hc hn H2 (fun h => by cases h)
    rw [if_neg (by simp)] at ihr
    have ih1 := fun a' w' => tree_sound htab hs hQ t (k - 1) (listed.setIfInBounds j true) a' w' ht hk1
    have all : ∀ i ∈ (PTs.cons j flag t r).js, i ∈ Region.ready md ops listed → wpOp P ops Q i (fun a' w' => ((fun j => (flags.lookup j).getD true) i = true → Ext F w w') ∧ wpAnyX P md ops Q F (fun j => (flags.lookup j).getD true) (k - 1) (listed.setIfInBounds i true) a' w') a w := by
      intro i hi hir
      simp only [PTs.js, List.mem_cons] at hi
      by_cases hij : i = j
      · subst hij
        have hjlt : i < ops.size := by
          obtain ⟨_, o, ho, _⟩ := mem_ready.1 hir
          exact (Array.getElem?_eq_some_iff.1 ho).1
        exact wpOp_mono (fun a' w' h' => ⟨fun hf => h'.2.1 (by rw [← hfl]; exact hf), ih1 a' w' (hc.set hir) (h'.1.trans hn) h'.2.2⟩) (wpOp_size (wpOp_of_one hjlt H1))
      · exact ihr i (by rcases hi with h | h; exact absurd h hij; exact h) hir
    cases first with
    | false => rw [if_neg (by simp)]; exact all
    | true =>
      rw [if_pos rfl]
      obtain ⟨q, rfl⟩ : ∃ q, k = q + 1 := ⟨k - 1, by omega⟩
      refine ⟨fun h0 => by rw [hr rfl] at h0; simp [PTs.js] at h0, fun i hi => ?_⟩
      exact all i (by rw [← hr rfl]; exact hi) hi
end
/-- ALL ORDERS, BY A TREE. -/
theorem wp_tree (F : Nat → Prop) (t : PT) (flags : List (Nat × Bool)) (tab : Array Nat) {id : Nat} {a : Act} {w : World} (hm : P.follows .mixedOrders = true)
    (hs : (Region.noSelect ops && tabOk .any ops tab && treeOk .any ops tab flags a.tmps.size t (Array.replicate ops.size false) && lenT ops.size t) = true)
    (hQ : ∀ c a w (d : Option Tmp) (v : Value), Q (.panic c) (a.put d v) w → Q (.panic c) a w)
    (h : LinT P ops Q F t a w.drew) : (Code.region id ops true).wp P Q a w := by
  simp only [Bool.and_eq_true] at hs
  obtain ⟨⟨⟨hs, htab⟩, hl⟩, hlen⟩ := hs
  refine wp_region_any hm (wpAny_of_X (F := F) (flag := fun j => (flags.lookup j).getD true) _ _ _ _ ?_)
  exact tree_sound (F := F) htab hs hQ t _ _ a _ hl hlen (closed_start _) rfl h
end
end Go.Proofs.Ytokeanadhihlfaa
