/-
  Step laws with an abstract world behind each: a store into a block known whole, an append onto a row of the call's own. Plain theorems over any program.
-/
import Derived.Test.YtnioiijcmdnhaaaMem
import Derived.Deep.AppendLies
namespace Go.Proofs.Ytnioiijcmdnhaaa
open Go.RowKit

/-- cs with vs from place o on. -/
def splice (cs : Array Value) (o : Nat) (vs : List Value) : Array Value := (cs.toList.take o ++ vs ++ cs.toList.drop (o + vs.length)).toArray

theorem grown_setRow {w : World} {g : Nat} (cs : Array Value) : w.grownBy (w.setRow g cs) (some g) :=
  ⟨rfl, rfl, rfl, by simp [World.setRow], fun i _ hne => by
    simp only [World.setRow, Array.getElem?_modify]
    rw [if_neg (fun e => hne (by rw [e]))]⟩
theorem blk_setRow {w : World} {g : Nat} {t : TypeId} {old : Array Value} (h : Blk w g t old) (cs : Array Value) : Blk (w.setRow g cs) g t cs := setRow_heap w g old cs t (0, 0) h

section
variable {P : Program} {ops : Array Oper} {rest : List Oper} {o : Oper} {a : Act} {w : World} {Q : Exit → Act → World → Prop}

theorem run_storeVar_blk {g off : Nat} {t ty : TypeId} {cs : Array Value} {v : Value} (hg : Blk w g t cs) (hi : (P.info? ty).map (·.size) = some v.cells.size)
    (hf : off + v.cells.size ≤ cs.size) (h1 : v.cells.toList.all (·.oneCell') = true) :
    (storeVar ty ⟨g, off, none⟩ v).run P w = .ok () (w.setRow g (splice cs off v.cells.toList)) := by
  have := run_storeCells_at (P := P) g off t v.cells.toList 0 cs w hg (by simpa using hf) (fun u hu => (List.all_eq_true.1 h1) u hu)
  cases hq : P.info? ty with
  | none => simp [hq] at hi
  | some i =>
    have hs : v.cells.size = i.size := by simp [hq] at hi; omega
    simp only [storeVar, sizeOf, typeInfo, Sem.run_bind, Sem.run_pure]
    simp [hq, hs, this, splice]

/-- A store into a block known whole. -/
theorem wpl_store (hgd : o.guard = none) (ty : TypeId) (x y : Operand) (ho : o.op = .store ty x y) {g off : Nat} {v : Value} (hx : a.eval x = .pointer (some ⟨g, off, none⟩)) (hy : a.eval y = v)
    {t : TypeId} {cs : Array Value} (hg : Blk w g t cs) (hi : (P.info? ty).map (·.size) = some v.cells.size) (hf : off + v.cells.size ≤ cs.size) (h1 : v.cells.toList.all (·.oneCell') = true)
    (h : ∀ w', Blk w' g t (splice cs off v.cells.toList) → w.grownBy w' (some g) → wpList P ops Q rest (a.put o.dst undef) w') : wpList P ops Q (o :: rest) a w :=
  wpList_plain hgd fun _ hK => by
    unfold Oper.wp execOp
    simp only [ho, hx, hy, Instr.storeAt, Instr.sureAddr, Sem.run_bind, Sem.run_pure, Result.andThen_ok, run_storeVar_blk hg hi hf h1]
    exact hK _ _ (h _ (blk_setRow hg _) (grown_setRow _))

/-- What append asks of the slice's type t: its elements are of type e, 'size' cells and 'bytes' bytes each. -/
def Elem (P : Program) (t e : TypeId) (size bytes : Nat) : Prop :=
  ∃ i z, P.underlying t = some (.slice e) ∧ P.info? e = some i ∧ i.zero = some z ∧ i.size = size ∧ i.bytes = bytes ∧ z.cells.size = size ∧ 0 < size

theorem own_form {base : Nat} {e : TypeId} {size n : Nat} {v : Value} {xs : List Value} (h : w.ownsRow base e size v n xs) : ∃ D c, v = .slice D n c := by
  rcases h.2 with ⟨rfl, rfl⟩ | ⟨g, cap, _, rfl, _⟩
  · exact ⟨_, _, rfl⟩
  · exact ⟨_, _, rfl⟩

theorem run_append_row {t ty e : TypeId} {size bytes : Nat} (he : Elem P t e size bytes) (base : Nat) {v : Value} {n : Nat} {xs : List Value} (hown : w.ownsRow base e size v n xs)
    {S : Nat → Prop} {A : Option Addr} {m c : Nat} {news : List Value} (hr : Row w S A news) (hl : news.length = m * size) (h1 : ∀ u ∈ news, u.oneCell' = true)
    (h63 : n + m ≤ maxLen) (hbytes : (n + m) * bytes ≤ 140737488355328) (hbase : base ≤ w.heap.size) :
    ∃ v' w', (Builtin.append_ #[t, t] ty #[v, .slice A m c]).run P w = .ok v' w' ∧ w'.ownsRow base e size v' (n + m) (xs ++ news) ∧ w.grownBy w' v.ownBlock ∧
      (v'.ownBlock = v.ownBlock ∨ v'.ownBlock = some w.heap.size) := by
  obtain ⟨i, z, ht, hi, hz, hsize, hby, hzs, hsz⟩ := he
  cases A with
  | none =>
    have hn : news = [] := by
      rcases Classical.em (news = []) with h | h
      · exact h
      · obtain ⟨b, off, hA, _⟩ := hr h
        cases hA
    subst hn
    have hm : m = 0 := by
      rcases Nat.eq_zero_or_pos m with h | h
      · exact h
      · have : 0 < m * size := Nat.mul_pos h hsz
        simp at hl
        omega
    subst hm
    refine ⟨v, w, ?_, by simpa using hown, World.grownBy.refl w _, .inl rfl⟩
    rcases hown.2 with ⟨rfl, rfl⟩ | ⟨g, cap, cur, rfl, _, _, hnc, _⟩
    · simp [Builtin.append_, run_underlying ht, sizeOf, typeInfo, hi, Builtin.lenOf, Builtin.firstCells]
    · simp [Builtin.append_, run_underlying ht, sizeOf, typeInfo, hi, Builtin.lenOf, Builtin.firstCells, hnc, storeCells]
  | some ad =>
    have hcells : ∀ j u, news[j]? = some u → w.cell? (ad.add j) = some u := by
      intro j u hu
      have hne : news ≠ [] := fun e => by simp [e] at hu
      obtain ⟨b, off, hA, _, hc⟩ := hr hne
      injection hA with hA
      subst hA
      rw [Addr.add_lit]
      exact hc j u hu
    obtain ⟨v', w', hrun, h2, h3, _, h5⟩ := run_append_own_at (P := P) w base t ty e i z size bytes ht hi hz hsize hby hzs hsz v n xs hown ad m c news hl hcells h1 h63 hbytes hbase
    exact ⟨v', w', hrun, h2, h3, h5⟩

theorem run_append_slice {t ty e : TypeId} {size bytes : Nat} (he : Elem P t e size bytes) (base : Nat) {v : Value} {n : Nat} {xs : List Value} (hown : w.ownsRow base e size v n xs)
    {S : Nat → Prop} {A : Option Addr} {m c : Nat} {news : List Value} (hr : Row w S A news) (hl : news.length = m * size) (h1 : ∀ u ∈ news, u.oneCell' = true)
    (h63 : n + m ≤ maxLen) (hbytes : (n + m) * bytes ≤ 140737488355328) (hbase : base ≤ w.heap.size) :
    ∃ D c' w', (Builtin.append_ #[t, t] ty #[v, .slice A m c]).run P w = .ok (.slice D (n + m) c') w' ∧ w'.ownsRow base e size (.slice D (n + m) c') (n + m) (xs ++ news) ∧ w.grownBy w' v.ownBlock ∧
      ((Value.slice D (n + m) c').ownBlock = v.ownBlock ∨ (Value.slice D (n + m) c').ownBlock = some w.heap.size) := by
  obtain ⟨v', w', hrun, h2, h3, h4⟩ := run_append_row (ty := ty) he base hown (c := c) hr hl h1 h63 hbytes hbase
  obtain ⟨D, c', rfl⟩ := own_form h2
  exact ⟨D, c', w', hrun, h2, h3, h4⟩

/-- 'append(s, x...)': s nil or a row of the call's own; x any slice. -/
theorem wpl_append (hgd : o.guard = none) (s x : Operand) (t : TypeId) (ho : o.op = .call { callee := .builtin .append, args := #[s, x], argTypes := #[t, t] })
    {e : TypeId} {size bytes : Nat} (he : Elem P t e size bytes) (base : Nat) {v : Value} {n : Nat} {xs : List Value} (hs : a.eval s = v) (hown : w.ownsRow base e size v n xs)
    {S : Nat → Prop} {A : Option Addr} {m c : Nat} {news : List Value} (hx : a.eval x = .slice A m c) (hr : Row w S A news) (hl : news.length = m * size) (h1 : ∀ u ∈ news, u.oneCell' = true)
    (h63 : n + m ≤ maxLen) (hbytes : (n + m) * bytes ≤ 140737488355328) (hbase : base ≤ w.heap.size)
    (h : ∀ D c' w', w'.ownsRow base e size (.slice D (n + m) c') (n + m) (xs ++ news) → w.grownBy w' v.ownBlock →
      ((Value.slice D (n + m) c').ownBlock = v.ownBlock ∨ (Value.slice D (n + m) c').ownBlock = some w.heap.size) → wpList P ops Q rest (a.put o.dst (.slice D (n + m) c')) w') : wpList P ops Q (o :: rest) a w :=
  wpList_plain hgd fun _ hK => by
    obtain ⟨D, c', w', hrun, h2, h3, h4⟩ := run_append_slice (P := P) (ty := o.type) he base hown (c := c) hr hl h1 h63 hbytes hbase
    unfold Oper.wp execOp
    simp only [ho, resolve, invoke, builtin, Sem.run_bind, Sem.run_pure, Result.andThen_ok, List.map_toArray, List.map_cons, List.map_nil, hs, hx, hrun]
    exact hK _ _ (h D c' w' h2 h3 h4)

/-- A copy of bytes: 'append([]byte(nil), x...)'. -/
theorem wpl_copy_nil (hgd : o.guard = none) (x : Operand) (t : TypeId) {c0 : Operand} (ho : o.op = .call { callee := .builtin .append, args := #[c0, x], argTypes := #[t, t] }) (hc0 : a.eval c0 = .slice none 0 0)
    {e : TypeId} (he : Elem P t e 1 1) {S : Nat → Prop} {A : Option Addr} {c : Nat} {l : List UInt8} {m : Nat} (hx : a.eval x = .slice A m c) (hr : SB w S A c l) (hm : m = l.length)
    (hbytes : l.length ≤ 140737488355328)
    (h : ∀ D c' w', SB w' (Lt w'.heap.size) D c' l → Below w.heap.size w w' → wpList P ops Q rest (a.put o.dst (.slice D m c')) w') : wpList P ops Q (o :: rest) a w := by
  subst hm
  refine wpl_append hgd c0 x t ho he 0 hc0 (World.ownsRow_nil w 0 e 1) hx hr.row (by simp) (map_BV_one l) (by have := hr.cap; have := hr.max; omega) (by omega) (Nat.zero_le _) ?_
  intro D c' w' h2 h3 _
  simp only [Nat.zero_add, List.nil_append] at h2 ⊢
  exact h D c' w' (SB.of_own h2) (below_of_grown h3 (Nat.le_refl _) (fun g hg => by cases hg))

/-- A struct's or array's type, of n cells. -/
def IsAgg (P : Program) (ty : TypeId) (n : Nat) : Prop :=
  ∃ d, P.underlying ty = some d ∧ (match d with | .struct _ | .array _ _ => true | _ => false) = true ∧ (P.info? ty).map (·.size) = some n
theorem run_loadVar_blk {g : Nat} {t ty : TypeId} {cs : Array Value} (hg : Blk w g t cs) (hi : IsAgg P ty cs.size) : (loadVar ty ⟨g, 0, none⟩).run P w = .ok (.agg cs) w := by
  obtain ⟨d, h1, h2, h3⟩ := hi
  cases d <;> first | exact run_loadVar_row w g t ty cs (0, 0) _ hg h1 rfl h3 | cases h2
theorem res_c {fn : Func} {p : Tmp} {ty : TypeId} (h : fn.results = #[.cell p ty]) {tmps : Array Value} {g : Nat} {t : TypeId} {cs : Array Value} (hp : tmps.getD p undef = .pointer (some ⟨g, 0, none⟩))
    (hg : Blk w g t cs) (hi : IsAgg P ty cs.size) : (results fn tmps).run P w = .ok (.agg cs) w := by
  have hp' : tmps[p]?.getD undef = .pointer (some ⟨g, 0, none⟩) := by simpa using hp
  simp [results, h, hp', asAddr, run_loadVar_blk hg hi]
theorem res_cc {fn : Func} {p p' : Tmp} {ty ty' : TypeId} (h : fn.results = #[.cell p ty, .cell p' ty']) {tmps : Array Value} {g g' : Nat} {t t' : TypeId} {cs cs' : Array Value}
    (hp : tmps.getD p undef = .pointer (some ⟨g, 0, none⟩)) (hp' : tmps.getD p' undef = .pointer (some ⟨g', 0, none⟩))
    (hg : Blk w g t cs) (hi : IsAgg P ty cs.size) (hg' : Blk w g' t' cs') (hi' : IsAgg P ty' cs'.size) : (results fn tmps).run P w = .ok (.tuple #[.agg cs, .agg cs']) w := by
  have h1 : tmps[p]?.getD undef = .pointer (some ⟨g, 0, none⟩) := by simpa using hp
  have h2 : tmps[p']?.getD undef = .pointer (some ⟨g', 0, none⟩) := by simpa using hp'
  simp [results, h, h1, h2, asAddr, run_loadVar_blk hg hi, run_loadVar_blk hg' hi']
theorem res_ct {fn : Func} {p u : Tmp} {ty : TypeId} (h : fn.results = #[.cell p ty, .tmp u]) {tmps : Array Value} {g : Nat} {t : TypeId} {cs : Array Value} (hp : tmps.getD p undef = .pointer (some ⟨g, 0, none⟩))
    (hg : Blk w g t cs) (hi : IsAgg P ty cs.size) : (results fn tmps).run P w = .ok (.tuple #[.agg cs, tmps.getD u undef]) w := by
  have hp' : tmps[p]?.getD undef = .pointer (some ⟨g, 0, none⟩) := by simpa using hp
  simp [results, h, hp', asAddr, run_loadVar_blk hg hi]
theorem res_ctt {fn : Func} {p u x : Tmp} {ty : TypeId} (h : fn.results = #[.cell p ty, .tmp u, .tmp x]) {tmps : Array Value} {g : Nat} {t : TypeId} {cs : Array Value} (hp : tmps.getD p undef = .pointer (some ⟨g, 0, none⟩))
    (hg : Blk w g t cs) (hi : IsAgg P ty cs.size) : (results fn tmps).run P w = .ok (.tuple #[.agg cs, tmps.getD u undef, tmps.getD x undef]) w := by
  have hp' : tmps[p]?.getD undef = .pointer (some ⟨g, 0, none⟩) := by simpa using hp
  simp [results, h, hp', asAddr, run_loadVar_blk hg hi]
theorem res_cttt {fn : Func} {p u x y : Tmp} {ty : TypeId} (h : fn.results = #[.cell p ty, .tmp u, .tmp x, .tmp y]) {tmps : Array Value} {g : Nat} {t : TypeId} {cs : Array Value} (hp : tmps.getD p undef = .pointer (some ⟨g, 0, none⟩))
    (hg : Blk w g t cs) (hi : IsAgg P ty cs.size) : (results fn tmps).run P w = .ok (.tuple #[.agg cs, tmps.getD u undef, tmps.getD x undef, tmps.getD y undef]) w := by
  have hp' : tmps[p]?.getD undef = .pointer (some ⟨g, 0, none⟩) := by simpa using hp
  simp [results, h, hp', asAddr, run_loadVar_blk hg hi]
theorem res_tttt {fn : Func} {p u x y : Tmp} (h : fn.results = #[.tmp p, .tmp u, .tmp x, .tmp y]) {tmps : Array Value} :
    (results fn tmps).run P w = .ok (.tuple #[tmps.getD p undef, tmps.getD u undef, tmps.getD x undef, tmps.getD y undef]) w := by simp [results, h]
end
end Go.Proofs.Ytnioiijcmdnhaaa
