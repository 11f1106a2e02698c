/-
  A region that draws its order, where several operations that are not steady may come next: a tree of orders. Plain theorems over any program.
-/
import Derived.Test.YtnioiijcmdnhaaaPure
set_option linter.all false
namespace Go.Proofs.Ytnioiijcmdnhaaa
mutual
inductive PT where
  | node (l : List Nat) (alts : PTs)
inductive PTs where
  | nil
  | cons (j : Nat) (flag : Bool) (t : PT) (rest : PTs)
end
def PTs.js : PTs → List Nat
  | .nil => []
  | .cons j _ _ r => j :: r.js
section
variable {P : Program} {ops : Array Oper} {Q : Exit → Act → World → Prop} {md : Region.Mode} {F : Nat → Prop}
mutual
/-- Every path has k operations. -/
def lenT (k : Nat) : PT → Bool
  | .node l alts => decide (l.length ≤ k) && lenTs (k - l.length) true alts
def lenTs (k : Nat) (first : Bool) : PTs → Bool
  | .nil => !first || k == 0
  | .cons _ _ t r => decide (1 ≤ k) && lenT (k - 1) t && lenTs k false r
end
mutual
def treeOk (md : Region.Mode) (ops : Array Oper) (tab : Array Nat) (flags : List (Nat × Bool)) (n : Nat) : PT → Array Bool → Bool
  | .node l alts, listed => match takeOkT md ops tab flags n (pureN ops l) l listed with
    | none => false
    | some listed' => Region.ready md ops listed' == alts.js && treesOk md ops tab flags n alts listed'
def treesOk (md : Region.Mode) (ops : Array Oper) (tab : Array Nat) (flags : List (Nat × Bool)) (n : Nat) : PTs → Array Bool → Bool
  | .nil, _ => true
  | .cons j flag t r, listed => (flags.lookup j).getD true == flag && treeOk md ops tab flags n t (listed.setIfInBounds j true) && treesOk md ops tab flags n r listed
end
mutual
def LinT (P : Program) (ops : Array Oper) (Q : Exit → Act → World → Prop) (F : Nat → Prop) : PT → Act → World → Prop
  | .node l alts, a, w => ∃ A, (∀ w', (pureN ops l = true ∨ Ext F w w') → wpStill P ops w' (fun a' => a' = A) (l.map (opAt ops)) a) ∧ LinTs P ops Q F true alts A w
def LinTs (P : Program) (ops : Array Oper) (Q : Exit → Act → World → Prop) (F : Nat → Prop) (first : Bool) : PTs → Act → World → Prop
  | .nil, a, w => first = true → Q .normal a w
  | .cons j flag t r, a, w => wpList P ops (Exit.then (fun a' w' => (flag = true → Ext F w w') ∧ LinT P ops Q F t a' w') Q) [opAt ops j] a w ∧ LinTs P ops Q F false r a w
end
theorem LinT_node {l : List Nat} {alts : PTs} {a : Act} {w : World} (h : LinT P ops Q F (.node l alts) a w) : ∃ A, (∀ w', (pureN ops l = true ∨ Ext F w w') → wpStill P ops w' (fun a' => a' = A) (l.map (opAt ops)) a) ∧ LinTs P ops Q F true alts A w := by
  rw [LinT] at h
  exact h
theorem LinTs_nil {a : Act} {w : World} (h : LinTs P ops Q F true .nil a w) : Q .normal a w := by
  rw [LinTs] at h
  exact h rfl
theorem LinTs_cons {f : Bool} {j : Nat} {flag : Bool} {t : PT} {r : PTs} {a : Act} {w : World} (h : LinTs P ops Q F f (.cons j flag t r) a w) : wpList P ops (Exit.then (fun a' w' => (flag = true → Ext F w w') ∧ LinT P ops Q F t a' w') Q) [opAt ops j] a w ∧ LinTs P ops Q F false r a w := by
  rw [LinTs] at h
  exact h
mutual
theorem tree_sound {tab : Array Nat} (htab : tabOk md ops tab = true) {flags : List (Nat × Bool)} {n : Nat} (hs : Region.noSelect ops = true) (hQ : ∀ c a w (d : Option Tmp) (v : Value), Q (.panic c) (a.put d v) w → Q (.panic c) a w) :
    ∀ (t : PT) (k : Nat) (listed : Array Bool) (a : Act) (w : World), treeOk md ops tab flags n t listed = true → lenT k t = true → Closed md ops listed → a.tmps.size = n →
      LinT P ops Q F t a w → wpAnyX P md ops Q F (fun j => (flags.lookup j).getD true) k listed a w
  | .node l alts, k, listed, a, w, h, hk, hc, hn, H => by
    simp only [treeOk] at h
    cases ht : takeOkT md ops tab flags n (pureN ops l) l listed with
    | none => rw [ht] at h; cases h
    | some listed' =>
      rw [ht] at h
      simp only [Bool.and_eq_true, beq_iff_eq] at h
      obtain ⟨hr, hts⟩ := h
      obtain ⟨A, hst, H⟩ := LinT_node H
      simp only [lenT, Bool.and_eq_true, decide_eq_true_eq] at hk
      obtain ⟨hk1, hk2⟩ := hk
      obtain ⟨q, rfl⟩ : ∃ q, k = l.length + q := ⟨k - l.length, by omega⟩
      rw [Nat.add_sub_cancel_left] at hk2
      exact take_soundT htab hs hQ l listed listed' a ht hc hn hst fun hA hc' => trees_sound htab hs hQ alts q true listed' A w hts hk2 hc' hA H (fun _ => hr)
theorem trees_sound {tab : Array Nat} (htab : tabOk md ops tab = true) {flags : List (Nat × Bool)} {n : Nat} (hs : Region.noSelect ops = true) (hQ : ∀ c a w (d : Option Tmp) (v : Value), Q (.panic c) (a.put d v) w → Q (.panic c) a w) :
    ∀ (ts : PTs) (k : Nat) (first : Bool) (listed : Array Bool) (a : Act) (w : World), treesOk md ops tab flags n ts listed = true → lenTs k first ts = true → Closed md ops listed → a.tmps.size = n → LinTs P ops Q F first ts a w → (first = true → Region.ready md ops listed = ts.js) →
      (if first = true then wpAnyX P md ops Q F (fun j => (flags.lookup j).getD true) k listed a w else
        ∀ i ∈ ts.js, i ∈ Region.ready md ops listed → wpOp P ops Q i (fun a' w' => ((fun j => (flags.lookup j).getD true) i = true → Ext F w w') ∧ wpAnyX P md ops Q F (fun j => (flags.lookup j).getD true) (k - 1) (listed.setIfInBounds i true) a' w') a w)
  | .nil, k, first, listed, a, w, h, hk, hc, hn, H, hr => by
    cases first with
    | true => rw [if_pos rfl]; exact wpAnyX_done (by rw [hr rfl]; rfl) (LinTs_nil H) _
    | false => rw [if_neg (by simp)]; intro i hi; simp [PTs.js] at hi
  | .cons j flag t r, k, first, listed, a, w, h, hk, hc, hn, H, hr => by
    simp only [treesOk, Bool.and_eq_true, beq_iff_eq] at h
    obtain ⟨⟨hfl, ht⟩, htr⟩ := h
    simp only [lenTs, Bool.and_eq_true, decide_eq_true_eq] at hk
    obtain ⟨⟨hk0, hk1⟩, hk2⟩ := hk
    obtain ⟨H1, H2⟩ := LinTs_cons H
    have ihr := trees_sound htab hs hQ r k false listed a w htr hk2 hc hn H2 (fun h => by cases h)
    rw [if_neg (by simp)] at ihr
    have ih1 := fun a' w' => tree_sound htab hs hQ t (k - 1) (listed.setIfInBounds j true) a' w' ht hk1
    have all : ∀ i ∈ (PTs.cons j flag t r).js, i ∈ Region.ready md ops listed → wpOp P ops Q i (fun a' w' => ((fun j => (flags.lookup j).getD true) i = true → Ext F w w') ∧ wpAnyX P md ops Q F (fun j => (flags.lookup j).getD true) (k - 1) (listed.setIfInBounds i true) a' w') a w := by
      intro i hi hir
      simp only [PTs.js, List.mem_cons] at hi
      by_cases hij : i = j
      · subst hij
        have hjlt : i < ops.size := by
          obtain ⟨_, o, ho, _⟩ := mem_ready.1 hir
          exact (Array.getElem?_eq_some_iff.1 ho).1
        exact wpOp_mono (fun a' w' h' => ⟨fun hf => h'.2.1 (by rw [← hfl]; exact hf), ih1 a' w' (hc.set hir) (h'.1.trans hn) h'.2.2⟩) (wpOp_size (wpOp_of_one hjlt H1))
      · exact ihr i (by rcases hi with h | h; exact absurd h hij; exact h) hir
    cases first with
    | false => rw [if_neg (by simp)]; exact all
    | true =>
      rw [if_pos rfl]
      obtain ⟨q, rfl⟩ : ∃ q, k = q + 1 := ⟨k - 1, by omega⟩
      refine ⟨fun h0 => by rw [hr rfl] at h0; simp [PTs.js] at h0, fun i hi => ?_⟩
      exact all i (by rw [← hr rfl]; exact hi) hi
end
/-- ALL ORDERS, BY A TREE. -/
theorem wp_tree (F : Nat → Prop) (t : PT) (flags : List (Nat × Bool)) (tab : Array Nat) {id : Nat} {a : Act} {w : World} (hm : P.follows .mixedOrders = true)
    (hs : (Region.noSelect ops && tabOk .any ops tab && treeOk .any ops tab flags a.tmps.size t (Array.replicate ops.size false) && lenT ops.size t) = true)
    (hQ : ∀ c a w (d : Option Tmp) (v : Value), Q (.panic c) (a.put d v) w → Q (.panic c) a w)
    (h : LinT P ops Q F t a w.drew) : (Code.region id ops true).wp P Q a w := by
  simp only [Bool.and_eq_true] at hs
  obtain ⟨⟨⟨hs, htab⟩, hl⟩, hlen⟩ := hs
  refine wp_region_any hm (wpAny_of_X (F := F) (flag := fun j => (flags.lookup j).getD true) _ _ _ _ ?_)
  exact tree_sound (F := F) htab hs hQ t _ _ a _ hl hlen (closed_start _) rfl h
end
end Go.Proofs.Ytnioiijcmdnhaaa
