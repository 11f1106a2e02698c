/-
  Facts of the program that opening the flash laws' arguments needs.
-/
import Derived.Test.YtnioiijcmdnhaaaRows
import Derived.Test.YtnioiijcmdnhaaaVOpen
import Derived.Test.YtnioiijcmdnhaaaProg
import Derived.KernelRfl
set_option linter.all false
namespace Go.Proofs.Ytnioiijcmdnhaaa
open Go.ChangeShapes Go.WideShapes Go.ChangeAt Go.RowKit

theorem law_own : ownKnob Try.prog.godebug = none := by kernel_rfl
theorem law_laidOut : laidOutB Try.prog = true := by kernel_rfl
theorem cells5 : Try.prog.cellsOf 5 = 1 := by kernel_rfl
theorem cells3 : Try.prog.cellsOf 3 = 1 := by kernel_rfl
namespace V
structure FlT (P : Program) (t : TypeId) : Prop where
  fs : ∃ f0 f1 : Field, P.underlying t = some (.struct #[f0, f1]) ∧ (f0.offset = 0 ∧ f1.offset = 1) ∧ (P.cellsOf f0.type = 1 ∧ P.cellsOf f1.type = 1) ∧ P.underlying f0.type = some (.int .i64) ∧
    ∃ e, P.underlying f1.type = some (.slice e) ∧ P.underlying e = some (.int .u8) ∧ P.cellsOf e = 1
  cells : P.cellsOf t = 2
section
variable {H : Type} {enc : TypeId × Value → H} {P : Program} {W : World} {base : Nat} {d : DataW H} {p : List MemPlace} {v : Value} {t : TypeId}
theorem arg_flash (hp : FlT P t) (hv : Value.okWide P W .any base t v) (h : DataW.Trod enc P W 0 (fun _ => true) true t v d p) :
    ∃ (z : Int) (l : List Int), RepV0 W (Lt W.heap.size) (s1 none) (.agg [.int .i64 z, .ints false .u8 l]) v := by
  obtain ⟨f0, f1, hu, ⟨o0, o1⟩, ⟨c0, c1⟩, u0, e, u5, u6, u7⟩ := hp.fs
  obtain ⟨cs, rfl, _⟩ := okWide_struct hu hv
  obtain ⟨fuel, hf⟩ := h
  have hcs : (Value.agg cs).cells.toList = cs.toList := by simp [Value.cells]
  rw [hcs] at hf
  obtain ⟨xs, n, _, _, hl, hxl, hf⟩ := DataW.trod_struct hu hf
  rw [hp.cells] at hl
  obtain ⟨csl⟩ := cs
  match csl, hl with
  | [v0, v1], _ =>
    have g : ∀ i (hi : i < 2), ∃ y, xs[i]? = some y := fun i hi => ⟨xs[i]'(by rw [hxl]; exact hi), List.getElem?_eq_getElem _⟩
    obtain ⟨y0, g0⟩ := g 0 (by omega)
    obtain ⟨y1, g1⟩ := g 1 (by omega)
    have t0 := hf 0 f0 rfl
    have t1 := hf 1 f1 rfl
    rw [g0, o0, c0] at t0
    rw [g1, o1, c1] at t1
    simp only [List.drop_zero, List.drop_succ_cons, List.take_succ_cons, List.take_zero] at t0 t1
    obtain ⟨a, ea, _, wa⟩ := DataW.trod_int u0 t0
    obtain ⟨A, cp, s, es, hs⟩ := open_si u5 u6 u7 t1
    simp only [List.cons.injEq, and_true] at ea es
    subst ea; subst es
    refine ⟨a, s, ?_⟩
    simp only [RepV0]
    refine ⟨[.int .i64 a, .slice A s.length cp], rfl, ?_⟩
    simp only [Rep, RepL]
    exact ⟨[[.int .i64 a], [.slice A s.length cp]], ⟨_, _, rfl, ⟨rfl, wf_inK wa⟩, _, _, rfl, ⟨A, cp, rfl, hs, by simp⟩, rfl⟩, rfl⟩
end
end V
theorem flT : V.FlT Try.prog 24 := ⟨⟨_, _, Try.underlying24, ⟨rfl, rfl⟩, ⟨by kernel_rfl, by kernel_rfl⟩, Try.underlying3, 5, Try.underlying22, Try.underlying5, cells5⟩, by kernel_rfl⟩
end Go.Proofs.Ytnioiijcmdnhaaa
