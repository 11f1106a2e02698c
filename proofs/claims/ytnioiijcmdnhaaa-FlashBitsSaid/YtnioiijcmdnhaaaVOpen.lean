/-
  The arguments of a law, as the evaluator's values: slices of ints, packets, slices of packets; and what a law's promise gives. No function of the program is named here.
-/
import Derived.Test.YtnioiijcmdnhaaaVNum
import Derived.WalkKit
import Derived.ProofKit
import Derived.OpenShut
import Derived.ShutString
import Derived.ChangeOld
import Derived.Below
set_option linter.all false
namespace Go.Proofs.Ytnioiijcmdnhaaa.V
open Go Go.ChangeShapes Go.WideShapes Go.ChangeAt Go.RowKit

/-- What a law gives. -/
def LawTrue (w : World) (e : Ending) (w' : World) : Prop := e = .returned (.bool true) ∧ Below w.heap.size w w'
theorem law_of {P : Program} {f : FuncId} {t : Tr} (hk : Keeps P f t) {args : List AV} {w : World} {vs : List Value} (hv : RepVL w (Lt w.heap.size) (s1 none) args vs) (h : ∀ post : AV → Option AV → Prop, post (.bool true) none → t args none post) :
    Calls P f vs.toArray w (LawTrue w) := by
  have := hk.spec args none (fun r e => r = .bool true ∧ e = none) (h _ ⟨rfl, rfl⟩) w (Lt w.heap.size) none vs (fun b hb => hb) hv rfl
  refine this.mono ?_
  rintro en w' ⟨r, e', v, S', m', ⟨rfl, rfl⟩, rfl, hr, he, _, _, _, _, hfr⟩
  simp only [RepV, RepV0, Rep, List.cons.injEq, and_true] at hr
  subst hr
  exact ⟨rfl, hfr.os, hfr.tape, hfr.output, hfr.size, fun k hk => hfr.block k hk fun ⟨mb, h1, _⟩ => by cases h1⟩
theorem addr_plain {w : World} {x : Addr} {v : Value} (h : w.cell? (x.add 0) = some v) : ∃ b off, x = ⟨b, off, none⟩ ∧ b < w.heap.size := by
  obtain ⟨b, off, spot⟩ := x
  have hspot : spot = none := by simpa [Addr.add] using World.cell?_spot h
  subst hspot
  have := World.block_lt_of_cell? w _ h
  exact ⟨b, off, rfl, by simpa [Addr.add] using this⟩
theorem wf_inK {k : IntKind} {n : Int} (h : (Lit.int k n).wf = true) : inK k n = true := by
  simpa [Lit.wf, inK] using h
theorem SI.nil (w : World) (S : Nat → Prop) (k : IntKind) : SI w S none 0 k [] := ⟨Nat.le_refl _, Nat.zero_le _, by simp, Row.nil⟩
section
variable {H : Type} {enc : TypeId × Value → H} {P : Program} {w : World} {fuel : Nat} {cs : List Value} {x : DataW H × List MemPlace}
theorem open_si {t e : TypeId} {k : IntKind} (ht : P.underlying t = some (.slice e)) (he : P.underlying e = some (.int k)) (hc : P.cellsOf e = 1) (h : DataW.trod enc P w 0 (fun _ => true) true fuel t cs = some x) :
    ∃ (A : Option Addr) (c : Nat) (l : List Int), cs = [.slice A l.length c] ∧ SI w (Lt w.heap.size) A c k l := by
  rcases open_ints ht he hc h with ⟨rfl, _⟩ | ⟨x, len, cap, zs, rfl, _, hl, hm, hz, _, hcell, hwz⟩
  · exact ⟨none, 0, [], rfl, SI.nil _ _ _⟩
  · have hz' : zs.length = cap := by simpa using hz
    refine ⟨some x, cap, zs.take len, by simp; omega, by simp; omega, hm, fun n hn => wf_inK (hwz n (List.mem_of_mem_take hn)), fun hn => ?_⟩
    have hlen : 0 < len := by
      rcases Nat.eq_zero_or_pos len with h | h
      · subst h; simp at hn
      · exact h
    obtain ⟨b, off, rfl, hb⟩ := addr_plain (hcell 0 (by omega))
    refine ⟨b, off, rfl, hb, fun j v hv => ?_⟩
    simp only [List.getElem?_map, List.getElem?_take] at hv
    split at hv
    · rename_i hj
      have hjz : j < zs.length := by omega
      rw [List.getElem?_eq_getElem hjz] at hv
      simp only [Option.map_some, Option.some.injEq] at hv
      subst hv
      have := hcell j hjz
      rw [Addr.add_lit] at this
      rw [this]
      simp [List.getElem?_eq_getElem hjz]
    · simp at hv
/-- The type of a packet. -/
structure PkT (P : Program) (t : TypeId) : Prop where
  fs : ∃ f0 f1 f2 f3 f4 f5 : Field, P.underlying t = some (.struct #[f0, f1, f2, f3, f4, f5]) ∧ (f0.offset = 0 ∧ f1.offset = 1 ∧ f2.offset = 2 ∧ f3.offset = 3 ∧ f4.offset = 4 ∧ f5.offset = 5) ∧
    (P.cellsOf f0.type = 1 ∧ P.cellsOf f1.type = 1 ∧ P.cellsOf f2.type = 1 ∧ P.cellsOf f3.type = 1 ∧ P.cellsOf f4.type = 1 ∧ P.cellsOf f5.type = 1) ∧
    P.underlying f0.type = some (.int .u32) ∧ P.underlying f1.type = some .bool ∧ P.underlying f2.type = some (.int .i64) ∧ P.underlying f3.type = some (.int .i64) ∧ P.underlying f4.type = some (.int .i64) ∧
    ∃ e, P.underlying f5.type = some (.slice e) ∧ P.underlying e = some (.int .u8) ∧ P.cellsOf e = 1
  cells : P.cellsOf t = 6
theorem open_pkC {t : TypeId} (hp : PkT P t) (h : DataW.trod enc P w 0 (fun _ => true) true fuel t cs = some x) : ∃ r : Rec, RecRep w (Lt w.heap.size) 0 r cs := by
  obtain ⟨f0, f1, f2, f3, f4, f5, hu, ⟨o0, o1, o2, o3, o4, o5⟩, ⟨c0, c1, c2, c3, c4, c5⟩, u0, u1, u2, u3, u4, e, u5, u6, u7⟩ := hp.fs
  obtain ⟨xs, n, _, _, hl, hxl, hf⟩ := DataW.trod_struct hu h
  rw [hp.cells] at hl
  match cs, hl with
  | [v0, v1, v2, v3, v4, v5], _ =>
    have g : ∀ i (hi : i < 6), ∃ y, xs[i]? = some y := fun i hi => ⟨xs[i]'(by rw [hxl]; exact hi), List.getElem?_eq_getElem _⟩
    obtain ⟨y0, g0⟩ := g 0 (by omega)
    obtain ⟨y1, g1⟩ := g 1 (by omega)
    obtain ⟨y2, g2⟩ := g 2 (by omega)
    obtain ⟨y3, g3⟩ := g 3 (by omega)
    obtain ⟨y4, g4⟩ := g 4 (by omega)
    obtain ⟨y5, g5⟩ := g 5 (by omega)
    have t0 := hf 0 f0 rfl
    have t1 := hf 1 f1 rfl
    have t2 := hf 2 f2 rfl
    have t3 := hf 3 f3 rfl
    have t4 := hf 4 f4 rfl
    have t5 := hf 5 f5 rfl
    rw [g0, o0, c0] at t0
    rw [g1, o1, c1] at t1
    rw [g2, o2, c2] at t2
    rw [g3, o3, c3] at t3
    rw [g4, o4, c4] at t4
    rw [g5, o5, c5] at t5
    simp only [List.drop_zero, List.drop_succ_cons, List.take_succ_cons, List.take_zero] at t0 t1 t2 t3 t4 t5
    obtain ⟨a, ea, _, wa⟩ := DataW.trod_int u0 t0
    obtain ⟨f, ef, _⟩ := DataW.trod_bool u1 t1
    obtain ⟨b, eb, _, wb⟩ := DataW.trod_int u2 t2
    obtain ⟨c, ec, _, wc⟩ := DataW.trod_int u3 t3
    obtain ⟨d, ed, _, wd⟩ := DataW.trod_int u4 t4
    obtain ⟨A, cp, s, es, hs⟩ := open_si u5 u6 u7 t5
    simp only [List.cons.injEq, and_true] at ea ef eb ec ed es
    subst ea; subst ef; subst eb; subst ec; subst ed; subst es
    exact ⟨⟨a, b, c, d, f, s⟩, A, cp, rfl, wf_inK wa, wf_inK wb, wf_inK wc, wf_inK wd, hs⟩
theorem RecRep.six {S : Nat → Prop} {r : Rec} (h : RecRep w S 0 r cs) : cs.length = 6 := by
  obtain ⟨A, c, rfl, _⟩ := h
  rfl
theorem flat_get : ∀ (css : List (List Value)), (∀ c ∈ css, c.length = 6) → ∀ j, css.flatten[j]? = (css[j / 6]?).bind (·[j % 6]?)
  | [], _, j => by simp
  | c :: css, h, j => by
    have hc := h c (by simp)
    rw [List.flatten_cons]
    by_cases hj : j < 6
    · rw [List.getElem?_append_left (by omega), Nat.div_eq_of_lt hj, Nat.mod_eq_of_lt hj]
      rfl
    · rw [List.getElem?_append_right (by omega), flat_get css (fun x hx => h x (List.mem_cons_of_mem _ hx)), hc]
      have e1 : j / 6 = (j - 6) / 6 + 1 := by omega
      have e2 : (j - 6) % 6 = j % 6 := by omega
      rw [e1, e2]
      simp
theorem recs_map {S : Nat → Prop} {α : Type} (f : α → Rec) (g : α → List Value) : ∀ (l : List α), (∀ x ∈ l, RecRep w S 0 (f x) (g x)) → RecsRep w S 0 (l.map f) (l.map g)
  | [], _ => trivial
  | a :: l, h => ⟨h a (by simp), recs_map f g l fun x hx => h x (List.mem_cons_of_mem _ hx)⟩
theorem open_recs {t e : TypeId} (ht : P.underlying t = some (.slice e)) (hp : PkT P e) (h : DataW.trod enc P w 0 (fun _ => true) true fuel t cs = some x) {σ : Sg} : ∃ l : List Rec, Rep w (Lt w.heap.size) σ (.rs false 0 l) cs := by
  rcases DataW.trod_slice ht h with ⟨rfl, _⟩ | ⟨a, len, cap, elems, rest, n, _, rfl, _, _, hl, hm, hlen, hel, _, _⟩
  · refine ⟨[], ?_⟩
    simp only [Rep]
    exact ⟨none, 0, [], rfl, Nat.le_refl _, Nat.zero_le _, by simp, trivial, Row.nil⟩
  · have each : ∀ i : Fin len, ∃ p : Rec × List Value, RecRep w (Lt w.heap.size) 0 p.1 p.2 ∧ ∀ j, j < 6 → w.cell? (a.add (i.1 * 6 + j)) = p.2[j]? := by
      intro i
      have := hel i.1 i.2
      rw [List.getElem?_eq_getElem (by omega), Option.bind_eq_some_iff] at this
      obtain ⟨ci, h1, h2⟩ := this
      obtain ⟨r, hr⟩ := open_pkC hp h2
      refine ⟨(r, ci), hr, fun j hj => ?_⟩
      rw [hp.cells] at h1
      obtain ⟨_, _, h3⟩ := World.cells?_some h1
      have := h3 j hj
      rw [← this, Addr.add_add]
    refine ⟨(List.finRange len).map fun i => (each i).choose.1, ?_⟩
    simp only [Rep]
    have hsix : ∀ c ∈ (List.finRange len).map (fun i => (each i).choose.2), c.length = 6 := by
      intro c hc
      obtain ⟨i, _, rfl⟩ := List.mem_map.1 hc
      exact (each i).choose_spec.1.six
    refine ⟨some a, cap, (List.finRange len).map fun i => (each i).choose.2, by simp, by simpa using hl, hm, by simp, recs_map _ _ _ fun i _ => (each i).choose_spec.1, fun hne => ?_⟩
    have hpos : 0 < len := by
      rcases Nat.eq_zero_or_pos len with h0 | h0
      · subst h0; simp at hne
      · exact h0
    have hc0 := (each ⟨0, hpos⟩).choose_spec.2 0 (by omega)
    have h6 := (each ⟨0, hpos⟩).choose_spec.1.six
    rw [List.getElem?_eq_getElem (by omega)] at hc0
    obtain ⟨b, off, rfl, hb⟩ := addr_plain (by simpa using hc0)
    refine ⟨b, off, rfl, hb, fun j v hv => ?_⟩
    rw [flat_get _ hsix, Option.bind_eq_some_iff] at hv
    obtain ⟨c, hc, hv⟩ := hv
    have hq : j / 6 < len := by
      have := (List.getElem?_eq_some_iff.1 hc).1
      simpa using this
    rw [List.getElem?_eq_getElem (by simpa using hq)] at hc
    simp only [List.getElem_map, List.getElem_finRange, Option.some.injEq] at hc
    have := (each ⟨j / 6, hq⟩).choose_spec.2 (j % 6) (by omega)
    rw [Addr.add_lit, show j / 6 * 6 + j % 6 = j by omega] at this
    rw [this]
    rw [show (each ⟨j / 6, hq⟩).choose.2 = c from by simpa using hc]
    exact hv
end
section
variable {H : Type} {enc : TypeId × Value → H} {P : Program} {W : World} {base : Nat} {d : DataW H} {p : List MemPlace} {v : Value} {t : TypeId}
theorem arg_int {k : IntKind} {a : Int} (h : (Lit.int k a).wf = true) : RepV0 W (Lt W.heap.size) (s1 none) (.int k a) (.int k a) := by
  show Rep _ _ _ _ _
  unfold Rep
  exact ⟨rfl, wf_inK h⟩
theorem arg_bool (b : Bool) : RepV0 W (Lt W.heap.size) (s1 none) (.bool b) (.bool b) := by simp only [RepV0, Rep]
theorem arg_ints {e : TypeId} {k : IntKind} (ht : P.underlying t = some (.slice e)) (he : P.underlying e = some (.int k)) (hc : P.cellsOf e = 1) (hv : Value.okWide P W .any base t v) (h : DataW.Trod enc P W 0 (fun _ => true) true t v d p) :
    ∃ l : List Int, RepV0 W (Lt W.heap.size) (s1 none) (.ints false k l) v := by
  obtain ⟨a0, len0, cap0, rfl⟩ := okWide_slice ht hv
  obtain ⟨fuel, hf⟩ := h
  obtain ⟨A, c, l, hcs, hs⟩ := open_si ht he hc hf
  simp [Value.cells] at hcs
  obtain ⟨rfl, rfl, rfl⟩ := hcs
  refine ⟨l, ?_⟩
  simp only [RepV0, Rep]
  exact ⟨_, _, rfl, hs, by simp⟩
theorem arg_pks {e : TypeId} (ht : P.underlying t = some (.slice e)) (hp : PkT P e) (hv : Value.okWide P W .any base t v) (h : DataW.Trod enc P W 0 (fun _ => true) true t v d p) :
    ∃ l : List Rec, RepV0 W (Lt W.heap.size) (s1 none) (.rs false 0 l) v := by
  obtain ⟨a0, len0, cap0, rfl⟩ := okWide_slice ht hv
  obtain ⟨fuel, hf⟩ := h
  obtain ⟨l, hr⟩ := open_recs (σ := s1 none) ht hp hf
  refine ⟨l, ?_⟩
  simp only [RepV0]
  have : (Value.slice a0 len0 cap0).cells.toList = [.slice a0 len0 cap0] := by simp [Value.cells]
  rw [this] at hr
  exact hr
theorem arg_pk (hp : PkT P t) (hv : Value.okWide P W .any base t v) (h : DataW.Trod enc P W 0 (fun _ => true) true t v d p) :
    ∃ r : Rec, RepV0 W (Lt W.heap.size) (s1 none) (.agg [.int .u32 r.a, .bool r.f, .int .i64 r.b, .int .i64 r.c, .int .i64 r.d, .ints false .u8 r.s]) v := by
  obtain ⟨_, _, _, _, _, _, hu, _⟩ := hp.fs
  obtain ⟨cs, rfl, _⟩ := okWide_struct hu hv
  obtain ⟨fuel, hf⟩ := h
  obtain ⟨r, hr⟩ := open_pkC hp hf
  refine ⟨r, ?_⟩
  have hcs : (Value.agg cs).cells.toList = cs.toList := by simp [Value.cells]
  rw [hcs] at hr
  obtain ⟨A, c, e, h1, h2, h3, h4, h5⟩ := hr
  simp only [RepV0]
  refine ⟨cs.toList, by simp, ?_⟩
  rw [e]
  simp only [Rep, RepL]
  exact ⟨[[.int .u32 r.a], [.bool r.f], [.int .i64 r.b], [.int .i64 r.c], [.int .i64 r.d], [.slice A r.s.length c]], ⟨_, _, rfl, ⟨rfl, h1⟩, _, _, rfl, rfl, _, _, rfl, ⟨rfl, h2⟩, _, _, rfl, ⟨rfl, h3⟩, _, _, rfl, ⟨rfl, h4⟩, _, _, rfl, ⟨A, c, rfl, h5, by simp⟩, rfl⟩, rfl⟩
end
end Go.Proofs.Ytnioiijcmdnhaaa.V
