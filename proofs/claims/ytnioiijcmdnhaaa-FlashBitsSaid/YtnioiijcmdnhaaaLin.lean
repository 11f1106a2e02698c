/-
  A region that draws its order, walked in one order: the linear form ('Lin'), and that it serves for every order ('wp_draw'). Plain theorems over any program.
-/
import Derived.Test.YtnioiijcmdnhaaaDraw
import Derived.Tactics
namespace Go.Proofs.Ytnioiijcmdnhaaa

section
variable {P : Program} {ops : Array Oper} {Q : Exit → Act → World → Prop} {md : Region.Mode} {F : Nat → Prop}

def opAt (ops : Array Oper) (i : Nat) : Oper := ops.getD i default
theorem opAt_of {i : Nat} (h : i < ops.size) : ops[i]? = some (opAt ops i) := by
  simp [opAt, h]

theorem Act.put_size (a : Act) (d : Option Tmp) (v : Value) : (a.put d v).tmps.size = a.tmps.size := by
  cases d <;> simp [Act.put]
theorem Act.put_same (a : Act) (d : Tmp) (v : Value) (h : d < a.tmps.size) : (a.put (some d) v).tmps[d]? = some v := by
  simp [Act.put, h]
theorem Act.put_far (a : Act) {d e : Tmp} (v : Value) (h : e ≠ d) : (a.put (some e) v).tmps[d]? = a.tmps[d]? := by
  simp [Act.put, Array.getElem?_setIfInBounds_ne h]

theorem still_split {w : World} {K : Act → Prop} {o : Oper} {l : List Oper} {a : Act} (h : wpStill P ops w K (o :: l) a) :
    ∃ v, YieldsAt P ops w o v a ∧ wpStill P ops w K l (a.put o.dst v) := by
  unfold wpStill at h
  by_cases hw : Region.wanted o (yielded ops a.tmps) = true
  · simp only [hw, if_true, Oper.still] at h
    generalize hr : (execOp a.eval o).run P w = r at h
    cases r with
    | ok n w' =>
      cases n <;> simp only [Oper.stillUpon] at h
      case value u => obtain ⟨rfl, h2⟩ := h; exact ⟨u, .inl ⟨hw, .inl hr⟩, h2⟩
      case skip => obtain ⟨rfl, h2⟩ := h; exact ⟨undef, .inl ⟨hw, .inr (.inl ⟨hr, rfl⟩)⟩, h2⟩
      case enter f args => obtain ⟨rfl, v, hc, h2⟩ := h; exact ⟨v, .inl ⟨hw, .inr (.inr ⟨f, args, hr, hc⟩)⟩, h2⟩
    | halt x w' => simp only [Oper.stillUpon] at h
  · simp only [hw] at h
    exact ⟨undef, .inr ⟨by simpa using hw, rfl⟩, h⟩

theorem still_slot {w : World} {A : Act} {d : Tmp} : ∀ (l : List Oper) (a : Act), (∀ o ∈ l, o.dst ≠ some d) → wpStill P ops w (fun a' => a' = A) l a → A.tmps[d]? = a.tmps[d]? := by
  intro l
  induction l with
  | nil => intro a _ h; rw [← (show a = A from h)]
  | cons o l ih =>
    intro a hd h
    obtain ⟨v, _, h2⟩ := still_split h
    rw [ih _ (fun o' ho' => hd o' (List.mem_cons_of_mem _ ho')) h2]
    cases ho : o.dst with
    | none => rfl
    | some e => exact Act.put_far a v (fun he => hd o (List.mem_cons_self ..) (by rw [ho, he]))

theorem still_take {w : World} {A : Act} {o : Oper} {l : List Oper} {a : Act} {d : Tmp} (h : ∀ w', Ext F w w' → wpStill P ops w' (fun a' => a' = A) (o :: l) a)
    (hd : o.dst = some d) (hsz : d < a.tmps.size) (hnd : ∀ o' ∈ l, o'.dst ≠ some d) :
    ∃ v, YieldsX P ops F o v a w ∧ ∀ w', Ext F w w' → wpStill P ops w' (fun a' => a' = A) l (a.put o.dst v) := by
  obtain ⟨v, hy, hs⟩ := still_split (h w (Ext.refl _ _))
  have e0 := still_slot l _ hnd hs
  rw [hd, Act.put_same a d v hsz] at e0
  have hall : ∀ w', Ext F w w' → YieldsAt P ops w' o v a ∧ wpStill P ops w' (fun a' => a' = A) l (a.put o.dst v) := by
    intro w' hx
    obtain ⟨v', hy', hs'⟩ := still_split (h w' hx)
    have e1 := still_slot l _ hnd hs'
    rw [hd, Act.put_same a d v' hsz, e0] at e1
    obtain rfl : v = v' := by injection e1
    exact ⟨hy', hs'⟩
  exact ⟨v, fun w' hx => (hall w' hx).1, fun w' hx => (hall w' hx).2⟩

theorem wpOp_size {j : Nat} {K : Act → World → Prop} {a : Act} {w : World} (h : wpOp P ops Q j K a w) :
    wpOp P ops Q j (fun a' w' => a'.tmps.size = a.tmps.size ∧ K a' w') a w := by
  unfold wpOp at *
  cases hj : ops[j]? with
  | none => rw [hj] at h; exact ⟨rfl, h⟩
  | some o =>
    rw [hj] at h
    simp only at h ⊢
    split
    · rename_i hw
      simp only [hw, if_true] at h
      rcases h with h | h
      case inr => exact .inr h
      refine .inl ?_
      unfold Oper.wp at *
      generalize (execOp a.eval o).run P w = r at *
      cases r with
      | ok n w' =>
        cases n <;> simp only [Oper.upon] at h ⊢
        case value u => exact ⟨Act.put_size .., h⟩
        case skip => exact ⟨Act.put_size .., h⟩
        case defer d => exact ⟨Act.put_size .., h⟩
        case enter f args =>
          refine Calls.mono h fun e w'' he => ?_
          cases e with
          | returned u => exact ⟨Act.put_size .., he⟩
          | panicked c => exact he
          | outgrown => exact he
        case row row args => exact Rows.mono h fun u w'' he => ⟨Act.put_size .., he⟩
      | halt x w' => cases x <;> simp only [Oper.upon] at h ⊢ <;> exact h
    · rename_i hw
      simp only [hw] at h
      exact ⟨Act.put_size .., h⟩

/-- A step: steady operations, then, maybe, one other (with its flag: is the world behind it to extend the world before it?). -/
abbrev Step := List Nat × Option (Nat × Bool)

def takeOk (md : Region.Mode) (ops : Array Oper) (tab : Array Nat) (flags : List (Nat × Bool)) (n : Nat) : List Nat → Array Bool → Option (Array Bool)
  | [], listed => some listed
  | i :: l, listed =>
    if (Region.ready md ops listed).contains i && Region.free md ops listed i && decide (i < ops.size) &&
      (match (opAt ops i).dst with | some d => decide (d < n) && l.all (fun k => (opAt ops k).dst != some d) | none => false) &&
      (List.range ops.size).all (fun j => j == i || ((flags.lookup j).getD true) || (tab.getD j 0).testBit i)
    then takeOk md ops tab flags n l (listed.setIfInBounds i true) else none
def linOk (md : Region.Mode) (ops : Array Oper) (tab : Array Nat) (flags : List (Nat × Bool)) (n : Nat) : List Step → Array Bool → Bool
  | [], listed => (Region.ready md ops listed).isEmpty
  | (l, oj) :: rest, listed =>
    match takeOk md ops tab flags n l listed with
    | none => false
    | some listed' =>
      match oj with
      | none => linOk md ops tab flags n rest listed'
      | some (j, b) => Region.ready md ops listed' == [j] && (flags.lookup j).getD true == b && linOk md ops tab flags n rest (listed'.setIfInBounds j true)
def flagsOf (steps : List Step) : List (Nat × Bool) := steps.filterMap (·.2)
def lenOf : List Step → Nat
  | [] => 0
  | (l, oj) :: rest => l.length + (if oj.isSome then 1 else 0) + lenOf rest

/-- The walk in one order. -/
def Lin (P : Program) (ops : Array Oper) (Q : Exit → Act → World → Prop) (F : Nat → Prop) : List Step → Act → World → Prop
  | [], a, w => Q .normal a w
  | (l, none) :: rest, a, w => ∃ A, (∀ w', Ext F w w' → wpStill P ops w' (fun a' => a' = A) (l.map (opAt ops)) a) ∧ Lin P ops Q F rest A w
  | (l, some (j, true)) :: rest, a, w => ∃ A, (∀ w', Ext F w w' → wpStill P ops w' (fun a' => a' = A) (l.map (opAt ops)) a) ∧
      wpList P ops (Exit.then (fun a' w' => Ext F w w' ∧ Lin P ops Q F rest a' w') Q) [opAt ops j] A w
  | (l, some (j, false)) :: rest, a, w => ∃ A, (∀ w', Ext F w w' → wpStill P ops w' (fun a' => a' = A) (l.map (opAt ops)) a) ∧
      wpList P ops (Exit.then (fun a' w' => Lin P ops Q F rest a' w') Q) [opAt ops j] A w

theorem wpOp_of_one {j : Nat} (hj : j < ops.size) {K : Act → World → Prop} {a : Act} {w : World}
    (h : wpList P ops (Exit.then K Q) [opAt ops j] a w) : wpOp P ops Q j K a w := by
  unfold wpOp
  rw [opAt_of hj]
  unfold wpList at h
  simp only
  have hnil : ∀ a' w', wpList P ops (Exit.then K Q) [] a' w' → K a' w' := fun _ _ h => h
  split
  · rename_i hw
    rw [if_pos hw] at h
    rcases h with h | ⟨h1, h2⟩
    · refine .inl ?_
      unfold Oper.wp at *
      generalize (execOp a.eval (opAt ops j)).run P w = r at *
      cases r with
      | ok n w' =>
        cases n <;> simp only [Oper.upon] at h ⊢
        case value u => exact hnil _ _ h
        case skip => exact hnil _ _ h
        case defer d => exact hnil _ _ h
        case enter f args =>
          refine Calls.mono h fun e w'' he => ?_
          cases e with
          | returned u => exact hnil _ _ he
          | panicked c => exact he
          | outgrown => exact he
        case row row args => exact Rows.mono h fun u w'' he => hnil _ _ he
      | halt x w' => cases x <;> simp only [Oper.upon] at h ⊢ <;> exact h
    · exact .inr ⟨h1, h2⟩
  · rename_i hw
    rw [if_neg hw] at h
    exact hnil _ _ h

theorem take_sound {tab : Array Nat} (htab : tabOk md ops tab = true) {flags : List (Nat × Bool)} {n : Nat} (hs : Region.noSelect ops = true) (hQ : ∀ c a w (d : Option Tmp) (v : Value), Q (.panic c) (a.put d v) w → Q (.panic c) a w) {A : Act} {w : World} {fuel : Nat} :
    ∀ (l : List Nat) (listed listed' : Array Bool) (a : Act), takeOk md ops tab flags n l listed = some listed' → Closed md ops listed → a.tmps.size = n →
      (∀ w', Ext F w w' → wpStill P ops w' (fun a' => a' = A) (l.map (opAt ops)) a) →
      (A.tmps.size = n → Closed md ops listed' → wpAnyX P md ops Q F (fun j => (flags.lookup j).getD true) fuel listed' A w) → wpAnyX P md ops Q F (fun j => (flags.lookup j).getD true) (l.length + fuel) listed a w := by
  intro l
  induction l with
  | nil =>
    intro listed listed' a h hc hn hst H
    obtain rfl : listed = listed' := by simpa [takeOk] using h
    have hA : a = A := hst w (Ext.refl _ _)
    subst hA
    simpa using H hn hc
  | cons i l ih =>
    intro listed listed' a h hc hn hst H
    cases hdst : (opAt ops i).dst with
    | none => simp [takeOk, hdst] at h
    | some d =>
      simp only [takeOk, hdst] at h
      split at h
      case isFalse => cases h
      rename_i hcond
      simp only [Bool.and_eq_true, decide_eq_true_eq, List.all_eq_true, bne_iff_ne] at hcond
      obtain ⟨⟨⟨⟨hr, hf⟩, hlt⟩, hdn, hnd⟩, hfl⟩ := hcond
      have hsz : d < a.tmps.size := by rw [hn]; exact hdn
      obtain ⟨v, hy, hst'⟩ := still_take (d := d) (a := a) (o := opAt ops i) (l := l.map (opAt ops)) hst hdst hsz (by
        intro o' ho'
        obtain ⟨k, hk, rfl⟩ := List.mem_map.1 ho'
        exact hnd k hk)
      have hr' : i ∈ Region.ready md ops listed := by simpa using hr
      have := ih (listed.setIfInBounds i true) listed' (a.put (opAt ops i).dst v) h (hc.set hr') (by rw [Act.put_size]; exact hn) hst' H
      have e : (i :: l).length + fuel = (l.length + fuel) + 1 := by simp; omega
      rw [e]
      refine wpAnyX_first (v := v) htab (opAt_of hlt) (Region.noSelect_spec hs) (fun c a w => hQ c a w _ _) ?_ _ listed a w hc (Region.free_spec (opAt_of hlt) hf) hr' hy this
      intro j hj hji hfj
      have := hfl j (by simpa using hj)
      simp only [Bool.or_eq_true, beq_iff_eq] at this
      rcases this with (h | h) | h
      · exact absurd h hji
      · rw [h] at hfj; cases hfj
      · exact .inl h

theorem wpAnyX_done {flag : Nat → Bool} {listed : Array Bool} {a : Act} {w : World} (hr : Region.ready md ops listed = []) (h : Q .normal a w) :
    ∀ fuel, wpAnyX P md ops Q F flag fuel listed a w
  | 0 => ⟨hr, h⟩
  | _ + 1 => ⟨fun _ => h, by rw [hr]; simp⟩

theorem lin_sound {tab : Array Nat} (htab : tabOk md ops tab = true) {flags : List (Nat × Bool)} {n : Nat} (hs : Region.noSelect ops = true) (hQ : ∀ c a w (d : Option Tmp) (v : Value), Q (.panic c) (a.put d v) w → Q (.panic c) a w) :
    ∀ (steps : List Step) (listed : Array Bool) (a : Act) (w : World), linOk md ops tab flags n steps listed = true → Closed md ops listed → a.tmps.size = n →
      Lin P ops Q F steps a w → wpAnyX P md ops Q F (fun j => (flags.lookup j).getD true) (lenOf steps) listed a w := by
  intro steps
  induction steps with
  | nil =>
    intro listed a w h _ _ H
    exact wpAnyX_done (by simpa [linOk] using h) H _
  | cons s rest ih =>
    obtain ⟨l, oj⟩ := s
    intro listed a w h hc hn H
    unfold linOk at h
    cases ht : takeOk md ops tab flags n l listed with
    | none => rw [ht] at h; cases h
    | some listed' =>
      rw [ht] at h
      cases oj with
      | none =>
        obtain ⟨A, hst, H⟩ := H
        have e : lenOf ((l, none) :: rest) = l.length + lenOf rest := by simp [lenOf]
        rw [e]
        exact take_sound htab hs hQ l listed listed' a ht hc hn hst fun hA hc' => ih listed' A w h hc' hA H
      | some jb =>
        obtain ⟨j, b⟩ := jb
        simp only [Bool.and_eq_true, beq_iff_eq] at h
        obtain ⟨⟨hr, hfl⟩, h⟩ := h
        have hj : j ∈ Region.ready md ops listed' := by rw [hr]; simp
        have hjlt : j < ops.size := by
          obtain ⟨_, o, ho, _⟩ := mem_ready.1 hj
          exact (Array.getElem?_eq_some_iff.1 ho).1
        have e : lenOf ((l, some (j, b)) :: rest) = l.length + (lenOf rest + 1) := by simp [lenOf]; omega
        rw [e]
        have key : ∃ A, (∀ w', Ext F w w' → wpStill P ops w' (fun a' => a' = A) (l.map (opAt ops)) a) ∧
            wpOp P ops Q j (fun a' w' => (b = true → Ext F w w') ∧ Lin P ops Q F rest a' w') A w := by
          cases b with
          | true =>
            obtain ⟨A, hst, H⟩ := H
            exact ⟨A, hst, wpOp_mono (fun a' w' h => ⟨fun _ => h.1, h.2⟩) (wpOp_of_one hjlt H)⟩
          | false =>
            obtain ⟨A, hst, H⟩ := H
            exact ⟨A, hst, wpOp_mono (fun a' w' h => ⟨fun h => (by cases h), h⟩) (wpOp_of_one hjlt H)⟩
        obtain ⟨A, hst, H⟩ := key
        refine take_sound htab hs hQ l listed listed' a ht hc hn hst fun hA hc' => ⟨fun h0 => (by rw [hr] at h0; cases h0), fun i hi => ?_⟩
        obtain rfl : i = j := by rw [hr] at hi; simpa using hi
        refine wpOp_mono (fun a' w' h' => ⟨fun hf => h'.2.1 (by rw [← hfl]; exact hf), ih _ a' w' h (hc'.set hj) (h'.1.trans hA) h'.2.2⟩) (wpOp_size H)

/-- ONE ORDER SERVES FOR ALL. -/
theorem wp_draw (F : Nat → Prop) (steps : List Step) (tab : Array Nat) {id : Nat} {a : Act} {w : World} (hm : P.follows .mixedOrders = true)
    (hs : (Region.noSelect ops && tabOk .any ops tab && linOk .any ops tab (flagsOf steps) a.tmps.size steps (Array.replicate ops.size false) && lenOf steps == ops.size) = true)
    (hQ : ∀ c a w (d : Option Tmp) (v : Value), Q (.panic c) (a.put d v) w → Q (.panic c) a w)
    (h : Lin P ops Q F steps a w.drew) : (Code.region id ops true).wp P Q a w := by
  simp only [Bool.and_eq_true, beq_iff_eq] at hs
  obtain ⟨⟨⟨hs, htab⟩, hl⟩, hlen⟩ := hs
  refine wp_region_any hm (wpAny_of_X (F := F) (flag := fun j => ((flagsOf steps).lookup j).getD true) _ _ _ _ ?_)
  have key := lin_sound (F := F) htab hs hQ steps _ a _ hl (closed_start _) rfl h
  rw [hlen] at key
  exact key

theorem lin_done {a : Act} {w : World} (h : Q .normal a w) : Lin P ops Q F [] a w := h
theorem lin_none {l : List Nat} {rest : List Step} {a A : Act} {w : World} (h1 : ∀ w', Ext F w w' → wpStill P ops w' (fun a' => a' = A) (l.map (opAt ops)) a) (h2 : Lin P ops Q F rest A w) : Lin P ops Q F ((l, none) :: rest) a w := ⟨A, h1, h2⟩
theorem lin_true {l : List Nat} {j : Nat} {rest : List Step} {a A : Act} {w : World} (h1 : ∀ w', Ext F w w' → wpStill P ops w' (fun a' => a' = A) (l.map (opAt ops)) a)
    (h2 : wpList P ops (Exit.then (fun a' w' => Ext F w w' ∧ Lin P ops Q F rest a' w') Q) [opAt ops j] A w) : Lin P ops Q F ((l, some (j, true)) :: rest) a w := ⟨A, h1, h2⟩
theorem lin_false {l : List Nat} {j : Nat} {rest : List Step} {a A : Act} {w : World} (h1 : ∀ w', Ext F w w' → wpStill P ops w' (fun a' => a' = A) (l.map (opAt ops)) a)
    (h2 : wpList P ops (Exit.then (fun a' w' => Lin P ops Q F rest a' w') Q) [opAt ops j] A w) : Lin P ops Q F ((l, some (j, false)) :: rest) a w := ⟨A, h1, h2⟩
theorem lin_true0 {j : Nat} {rest : List Step} {a : Act} {w : World}
    (h2 : wpList P ops (Exit.then (fun a' w' => Ext F w w' ∧ Lin P ops Q F rest a' w') Q) [opAt ops j] a w) : Lin P ops Q F (([], some (j, true)) :: rest) a w := ⟨a, fun _ _ => rfl, h2⟩
theorem lin_false0 {j : Nat} {rest : List Step} {a : Act} {w : World}
    (h2 : wpList P ops (Exit.then (fun a' w' => Lin P ops Q F rest a' w') Q) [opAt ops j] a w) : Lin P ops Q F (([], some (j, false)) :: rest) a w := ⟨a, fun _ _ => rfl, h2⟩
theorem wpList_then {l : List Oper} {Q' : Exit → Act → World → Prop} : ∀ (l' : List Oper) (a : Act) (w : World), wpList P ops Q (l' ++ l) a w →
    (∀ a w, wpList P ops Q l a w → Q' .normal a w) → (∀ e a w, e ≠ .normal → Q e a w → Q' e a w) → wpList P ops Q' l' a w := by
  intro l'
  induction l' with
  | nil => intro a w h h1 _; exact h1 _ _ h
  | cons o l' ih =>
    intro a w h h1 h2
    unfold wpList at h ⊢
    rw [List.cons_append] at h
    simp only at h
    split
    · rename_i hw
      rw [if_pos hw] at h
      rcases h with h | ⟨h3, a', w', h4⟩
      · refine .inl ?_
        unfold Oper.wp at *
        generalize (execOp a.eval o).run P w = r at *
        cases r with
        | ok n w' =>
          cases n <;> simp only [Oper.upon] at h ⊢
          case value u => exact ih _ _ h h1 h2
          case skip => exact ih _ _ h h1 h2
          case defer d => exact ih _ _ h h1 h2
          case enter f args =>
            refine Calls.mono h fun e w'' he => ?_
            cases e with
            | returned u => exact ih _ _ he h1 h2
            | panicked c => exact h2 _ _ _ (by simp) he
            | outgrown => obtain ⟨a', w', h4⟩ := he; exact ⟨a', w', h2 _ _ _ (by simp) h4⟩
          case row row args => exact Rows.mono h fun u w'' he => ih _ _ he h1 h2
        | halt x w' =>
          cases x <;> simp only [Oper.upon] at h ⊢
          case panic v => exact h2 _ _ _ (by simp) h
      · exact .inr ⟨h3, a', w', h2 _ _ _ (by simp) h4⟩
    · rename_i hw
      rw [if_neg hw] at h
      exact ih _ _ h h1 h2
/-- What is left is in one forced order, and no steady operation waits: it is walked as it stands. -/
theorem lin_tail : ∀ (js : List Nat) {a : Act} {w : World}, wpList P ops Q (js.map (opAt ops)) a w → Lin P ops Q F (js.map fun j => ([], some (j, false))) a w
  | [], _, _, h => h
  | j :: js, a, w, h => by
    refine lin_false0 ?_
    refine wpList_then (l := js.map (opAt ops)) [opAt ops j] a w h (fun a' w' h' => ?_) (fun e a' w' he h' => ?_)
    · exact lin_tail js h'
    · cases e <;> first | exact absurd rfl he | exact h'
end
end Go.Proofs.Ytnioiijcmdnhaaa
