/-
  Words for memory: a block known whole ('Blk'), a slice that reads as a list ('Row', 'SB' for bytes), and step laws with an abstract world behind each store and append. Plain theorems over any program.
-/
import Derived.Test.YtnioiijcmdnhaaaLin
import Derived.Below
import Derived.Maps.AppendAt
import Derived.Laws.OwnMore
import Derived.Laws.Tables
import Derived.Laws.BytesArg
import Derived.Lib.Hide
import Derived.WalkKit
namespace Go.Proofs.Ytnioiijcmdnhaaa
open Go.RowKit

/-! ### a block known whole -/
def Blk (w : World) (g : Nat) (t : TypeId) (cs : Array Value) : Prop := w.heap[g]? = some (.cells cs t (0, 0))
section
variable {w w' : World} {g : Nat} {t : TypeId} {cs : Array Value}
theorem Blk.lt (h : Blk w g t cs) : g < w.heap.size := by
  unfold Blk at h
  exact (Array.getElem?_eq_some_iff.1 h).1
theorem Blk.cell (h : Blk w g t cs) (i : Nat) : w.cell? ⟨g, i, none⟩ = cs[i]? := cell_of_row w g i cs t (0, 0) h
theorem Blk.free (h : Blk w g t cs) (i : Nat) : w.frozen? ⟨g, i, none⟩ = false := by
  unfold Blk at h
  simp [World.frozen?, h]
/-- What the walk's simp takes: cells, marks, place. -/
theorem Blk.facts (h : Blk w g t cs) : (∀ i, w.cell? ⟨g, i, none⟩ = cs[i]?) ∧ (∀ i, w.frozen? ⟨g, i, none⟩ = false) ∧ g < w.heap.size := ⟨h.cell, h.free, h.lt⟩
theorem Blk.new (w : World) (t : TypeId) (cs : Array Value) : Blk (w.alloc (.cells cs t)) w.heap.size t cs := heap_alloc_new w _
theorem Blk.drew (h : Blk w g t cs) : Blk w.drew g t cs := h
theorem Blk.alloc (h : Blk w g t cs) (o : Obj) : Blk (w.alloc o) g t cs := (Below.heap_alloc w o g h.lt).trans h
theorem Blk.below (h : Blk w g t cs) (hb : Below w.heap.size w w') : Blk w' g t cs := (hb.block g h.lt).trans h
theorem Blk.grown {row : Option Nat} (h : Blk w g t cs) (hb : w.grownBy w' row) (hne : some g ≠ row) : Blk w' g t cs := (hb.block g h.lt hne).trans h
theorem Blk.ext {F : Nat → Prop} (h : Blk w g t cs) (hx : Ext F w w') (hf : ¬ F g) : Blk w' g t cs := (hx.block g h.lt hf).trans h
theorem Blk.set (h : Blk w g t cs) (i : Nat) (u : Value) : Blk (w.setCell ⟨g, i, none⟩ u) g t (cs.setIfInBounds i u) := by
  unfold Blk at h ⊢
  simp [World.setCell, Array.getElem?_modify, h]
theorem Blk.far (h : Blk w g t cs) {p : Addr} (hp : g ≠ p.block) (u : Value) : Blk (w.setCell p u) g t cs := (Below.heap_setCell w p u g hp).trans h
end

theorem ext_of_below {w w' : World} (hb : Below w.heap.size w w') (F : Nat → Prop) : Ext F w w' := ⟨hb.size, fun k hk _ => hb.block k hk⟩
theorem ext_of_grown {w w' : World} {g : Nat} (hb : w.grownBy w' (some g)) : Ext (fun k => k = g) w w' := ⟨hb.size, fun k hk hf => hb.block k hk (fun e => hf (by injection e))⟩
theorem grown_of_below {w w' : World} (h : Below w.heap.size w w') (row : Option Nat) : w.grownBy w' row := ⟨h.os, h.tape, h.output, h.size, fun i hi _ => h.block i hi⟩
theorem below_of_grown {w w' : World} {row : Option Nat} (h : w.grownBy w' row) {B : Nat} (hB : B ≤ w.heap.size) (hr : ∀ g, row = some g → B ≤ g) : Below B w w' :=
  ⟨h.os, h.tape, h.output, h.size, fun k hk => h.block k (by omega) (fun e => by have := hr _ e.symm; omega)⟩
theorem below_drew (w : World) (B : Nat) : Below B w w.drew := ⟨rfl, rfl, rfl, Nat.le_refl _, fun _ _ => rfl⟩
/-- From the call's beginning through a step that leaves all that stood. -/
theorem below_go {N : Nat} {a w w' : World} (h : Below N a w) (hN : N ≤ w.heap.size) (k : Below w.heap.size w w') : Below N a w' := h.trans (k.mono hN)

/-! ### the boxes that a body lays first -/
theorem boxes1 {w W : World} {c1 : Array Value} {t1 : TypeId} (hW : w.alloc (.cells c1 t1) = W) : Below w.heap.size w W ∧ Blk W w.heap.size t1 c1 := by
  subst hW
  exact ⟨(Below.refl _ _).alloc (Nat.le_refl _) _, Blk.new _ _ _⟩
theorem boxes2 {w W : World} {c1 c2 : Array Value} {t1 t2 : TypeId} (hW : (w.alloc (.cells c1 t1)).alloc (.cells c2 t2) = W) :
    Below w.heap.size w W ∧ Blk W w.heap.size t1 c1 ∧ Blk W (w.heap.size + 1) t2 c2 := by
  subst hW
  refine ⟨((Below.refl _ _).alloc (Nat.le_refl _) _).alloc (by simp) _, (Blk.new _ _ _).alloc _, ?_⟩
  have := Blk.new (w.alloc (.cells c1 t1)) t2 c2
  simpa using this
theorem boxes3 {w W : World} {c1 c2 c3 : Array Value} {t1 t2 t3 : TypeId} (hW : ((w.alloc (.cells c1 t1)).alloc (.cells c2 t2)).alloc (.cells c3 t3) = W) :
    Below w.heap.size w W ∧ Blk W w.heap.size t1 c1 ∧ Blk W (w.heap.size + 1) t2 c2 ∧ Blk W (w.heap.size + 1 + 1) t3 c3 := by
  obtain ⟨hb, h1, h2⟩ := boxes2 (w := w) (c1 := c1) (c2 := c2) (t1 := t1) (t2 := t2) rfl
  subst hW
  refine ⟨hb.alloc (by simp; omega) _, h1.alloc _, h2.alloc _, ?_⟩
  have := Blk.new ((w.alloc (.cells c1 t1)).alloc (.cells c2 t2)) t3 c3
  simpa using this
theorem boxes4 {w W : World} {c1 c2 c3 c4 : Array Value} {t1 t2 t3 t4 : TypeId} (hW : (((w.alloc (.cells c1 t1)).alloc (.cells c2 t2)).alloc (.cells c3 t3)).alloc (.cells c4 t4) = W) :
    Below w.heap.size w W ∧ Blk W w.heap.size t1 c1 ∧ Blk W (w.heap.size + 1) t2 c2 ∧ Blk W (w.heap.size + 1 + 1) t3 c3 ∧ Blk W (w.heap.size + 1 + 1 + 1) t4 c4 := by
  obtain ⟨hb, h1, h2, h3⟩ := boxes3 (w := w) (c1 := c1) (c2 := c2) (c3 := c3) (t1 := t1) (t2 := t2) (t3 := t3) rfl
  subst hW
  refine ⟨hb.alloc (by simp; omega) _, h1.alloc _, h2.alloc _, h3.alloc _, ?_⟩
  have := Blk.new (((w.alloc (.cells c1 t1)).alloc (.cells c2 t2)).alloc (.cells c3 t3)) t4 c4
  simpa using this

/-! ### a slice that reads as a list -/
/-- The blocks below number n. -/
def Lt (n : Nat) : Nat → Prop := fun b => b < n
/-- The slice from A on reads as xs; its block is one of S. -/
def Row (w : World) (S : Nat → Prop) (A : Option Addr) (xs : List Value) : Prop :=
  xs ≠ [] → ∃ b off, A = some ⟨b, off, none⟩ ∧ S b ∧ ∀ j v, xs[j]? = some v → w.cell? ⟨b, off + j, none⟩ = some v
section
variable {w w' : World} {B B' : Nat} {S S' : Nat → Prop} {A : Option Addr} {xs : List Value}
theorem Row.nil : Row w S A [] := fun h => absurd rfl h
theorem Row.keep (h : Row w S A xs) (hk : ∀ b o, S b → w'.cell? ⟨b, o, none⟩ = w.cell? ⟨b, o, none⟩) : Row w' S A xs := fun hn => by
  obtain ⟨b, off, e, hb, hc⟩ := h hn
  exact ⟨b, off, e, hb, fun j v hv => (hk b _ hb).trans (hc j v hv)⟩
theorem Row.weaken (h : Row w S A xs) (hS : ∀ b, S b → S' b) : Row w S' A xs := fun hn => by
  obtain ⟨b, off, e, hb, hc⟩ := h hn
  exact ⟨b, off, e, hS b hb, hc⟩
theorem Row.more (h : Row w (Lt B) A xs) (hB : B ≤ B') : Row w (Lt B') A xs := h.weaken fun b (hb : b < B) => (by show b < B'; omega)
theorem Row.below (h : Row w S A xs) (hb : Below B w w') (hS : ∀ b, S b → b < B) : Row w' S A xs := h.keep fun b o hl => hb.cell (p := ⟨b, o, none⟩) (hS b hl)
theorem Row.drew (h : Row w S A xs) : Row w.drew S A xs := h
theorem Row.alloc (h : Row w S A xs) (hS : ∀ b, S b → b < w.heap.size) (o : Obj) : Row (w.alloc o) S A xs := h.keep fun b k hl => World.cell?_alloc_lt w o ⟨b, k, none⟩ (hS b hl)
theorem Row.grown (h : Row w S A xs) {row : Option Nat} (hg : w.grownBy w' row) (hS : ∀ b, S b → b < w.heap.size ∧ some b ≠ row) : Row w' S A xs :=
  h.keep fun b _ hl => World.cell?_of_block (w := w) (hg.block b (hS b hl).1 (hS b hl).2)
theorem Row.ext {F : Nat → Prop} (h : Row w S A xs) (hx : Ext F w w') (hS : ∀ b, S b → b < w.heap.size ∧ ¬ F b) : Row w' S A xs := h.keep fun b o hl => hx.cell b o (hS b hl).1 (hS b hl).2
theorem Row.take (h : Row w S A xs) (n : Nat) : Row w S A (xs.take n) := fun hn => by
  obtain ⟨b, off, e, hb, hc⟩ := h (fun e => hn (by simp [e]))
  refine ⟨b, off, e, hb, fun j v hv => hc j v ?_⟩
  rw [List.getElem?_take] at hv
  split at hv
  · exact hv
  · cases hv
/-- 's[k:]' as the model writes its address; 'size' cells an element. -/
theorem Row.cutN (size : Nat) (h : Row w S A xs) {k cap : Nat} (hc : xs.length ≤ cap * size) : Row w S (if cap = k then A else A.map (·.add (k * size))) (xs.drop (k * size)) := fun hn => by
  have hlt : k * size < xs.length := by
    rcases Nat.lt_or_ge (k * size) xs.length with h | h
    · exact h
    · exact absurd (List.drop_eq_nil_of_le h) hn
  obtain ⟨b, off, rfl, hb, hcl⟩ := h (fun e => by simp [e] at hlt)
  have hne : ¬ cap = k := fun e => by subst e; omega
  rw [if_neg hne]
  refine ⟨b, off + k * size, ?_, hb, fun j v hv => ?_⟩
  · rw [Option.map_some, Addr.add_lit]
  · rw [List.getElem?_drop] at hv
    rw [Nat.add_assoc]
    exact hcl _ v hv
theorem Row.cut (h : Row w S A xs) {k cap : Nat} (hc : xs.length ≤ cap) : Row w S (if cap = k then A else A.map (·.add (k * 1))) (xs.drop k) := by
  have := h.cutN 1 (k := k) (cap := cap) (by omega)
  rwa [Nat.mul_one] at this ⊢
theorem Row.of_own {base : Nat} {e : TypeId} {size n c : Nat} (h : w.ownsRow base e size (.slice A n c) n xs) : Row w (Lt w.heap.size) A xs := fun hn => by
  rcases h.2 with ⟨_, h2⟩ | ⟨g, cap, cur, hv, _, hh, _⟩
  · exact absurd (List.eq_nil_of_length_eq_zero (by rw [h.1, h2, Nat.zero_mul])) hn
  · injection hv with hA _ _
    subst hA
    refine ⟨g, 0, rfl, (Array.getElem?_eq_some_iff.1 hh).1, fun j v hj => ?_⟩
    have := h.cells (g := g) rfl j v hj
    rw [Addr.add_lit] at this
    exact this
theorem Row.of_blk {g : Nat} {t : TypeId} {cs : Array Value} (h : Blk w g t cs) : Row w (Lt w.heap.size) (some ⟨g, 0, none⟩) cs.toList := fun _ =>
  ⟨g, 0, rfl, h.lt, fun j v hv => by rw [Nat.zero_add, h.cell]; simpa using hv⟩
end

/-! ### bytes -/
def BV (b : UInt8) : Value := .int .u8 (b.toNat : Int)
theorem BV_one (b : UInt8) : (BV b).oneCell' = true := rfl
theorem map_BV_one (l : List UInt8) : ∀ u ∈ l.map BV, u.oneCell' = true := by
  intro u hu
  obtain ⟨b, _, rfl⟩ := List.mem_map.1 hu
  rfl
/-- The slice '.slice A l.length c' holds the bytes l; its block is one of S. -/
structure SB (w : World) (S : Nat → Prop) (A : Option Addr) (c : Nat) (l : List UInt8) : Prop where
  cap : l.length ≤ c
  max : c ≤ maxLen
  row : Row w S A (l.map BV)
section
variable {w w' : World} {B B' : Nat} {S S' : Nat → Prop} {A : Option Addr} {c : Nat} {l : List UInt8}
theorem SB.nil (w : World) (S : Nat → Prop) : SB w S none 0 [] := ⟨Nat.le_refl _, Nat.zero_le _, Row.nil⟩
theorem SB.weaken (h : SB w S A c l) (hS : ∀ b, S b → S' b) : SB w S' A c l := ⟨h.cap, h.max, h.row.weaken hS⟩
theorem SB.more (h : SB w (Lt B) A c l) (hB : B ≤ B') : SB w (Lt B') A c l := ⟨h.cap, h.max, h.row.more hB⟩
theorem SB.below (h : SB w (Lt B) A c l) (hb : Below B w w') : SB w' (Lt B) A c l := ⟨h.cap, h.max, h.row.below hb fun _ h => h⟩
theorem SB.up (h : SB w (Lt w.heap.size) A c l) (hb : Below w.heap.size w w') : SB w' (Lt w'.heap.size) A c l := (h.below hb).more hb.size
theorem SB.drew (h : SB w S A c l) : SB w.drew S A c l := ⟨h.cap, h.max, h.row⟩
theorem SB.alloc (h : SB w (Lt w.heap.size) A c l) (o : Obj) : SB (w.alloc o) (Lt (w.heap.size + 1)) A c l := ⟨h.cap, h.max, (h.row.alloc (fun _ h => h) o).more (by omega)⟩
theorem SB.grown (h : SB w S A c l) {row : Option Nat} (hg : w.grownBy w' row) (hS : ∀ b, S b → b < w.heap.size ∧ some b ≠ row) : SB w' S A c l := ⟨h.cap, h.max, h.row.grown hg hS⟩
theorem SB.ext {F : Nat → Prop} (h : SB w S A c l) (hx : Ext F w w') (hS : ∀ b, S b → b < w.heap.size ∧ ¬ F b) : SB w' S A c l := ⟨h.cap, h.max, h.row.ext hx hS⟩
theorem SB.take (h : SB w S A c l) (n : Nat) (_hn : n ≤ l.length) : SB w S A c (l.take n) := ⟨by have := h.cap; simp; omega, h.max, by rw [List.map_take]; exact h.row.take n⟩
theorem SB.cut (h : SB w S A c l) (k : Nat) : SB w S (if c = k then A else A.map (·.add (k * 1))) (c - k) (l.drop k) :=
  ⟨by have := h.cap; simp; omega, by have := h.max; omega, by rw [List.map_drop]; exact h.row.cut (by simpa using h.cap)⟩
theorem SB.of_own {base : Nat} {e : TypeId} {n : Nat} (h : w.ownsRow base e 1 (.slice A n c) n (l.map BV)) : SB w (Lt w.heap.size) A c l := by
  have hl : l.length = n := by have := h.1; simp at this; omega
  rcases h.2 with ⟨hv, hx⟩ | ⟨g, cap, cur, hv, _, _, hnc, hm, _⟩
  · injection hv with hA hn hc
    subst hA hc
    have : l = [] := List.eq_nil_of_length_eq_zero (by omega)
    subst this
    exact SB.nil _ _
  · injection hv with hA hn hc
    subst hc
    exact ⟨by omega, hm, Row.of_own h⟩
end
end Go.Proofs.Ytnioiijcmdnhaaa
