/-
  Opening the arguments of a law: a slice of bytes, a slice of ints. No function of the program is named here.
-/
import Derived.Test.YtokeanadhihlfaaRows
import Derived.Test.YtokeanadhihlfaaF12
import Derived.WalkKit
import Derived.ProofKit
import Derived.OpenShut
import Derived.ShutString
import Derived.ChangeOld
import Derived.Below
namespace Go.Proofs.Ytokeanadhihlfaa
open Go.ChangeShapes Go.WideShapes Go.ChangeAt Go.RowKit

theorem law_own : ownKnob Try.prog.godebug = none := by kernel_rfl
theorem law_laidOut : laidOutB Try.prog = true := by kernel_rfl

theorem addr_plain {w : World} {x : Addr} {v : Value} (h : w.cell? (x.add 0) = some v) : ∃ b off, x = ⟨b, off, none⟩ ∧ b < w.heap.size := by
  obtain ⟨b, off, spot⟩ := x
  have hspot : spot = none := by simpa [Addr.add] using World.cell?_spot h
  subst hspot
  have := World.block_lt_of_cell? w _ h
  exact ⟨b, off, rfl, by simpa [Addr.add] using this⟩

theorem ofNat_wf {n : Int} (h : (Lit.int .u8 n).wf = true) : ((UInt8.ofNat n.toNat).toNat : Int) = n := by
  have hb : 0 ≤ n ∧ n ≤ 255 := by simpa [Lit.wf, IntKind.min, IntKind.max, IntKind.bits, IntKind.signed] using h
  simp
  omega

/-- Bytes that came in. -/
theorem sb_of_ints {w : World} {x : Addr} {len cap : Nat} {zs : List Int} (hl : len ≤ cap) (hm : cap ≤ maxLen) (hz : zs.length = cap)
    (hcell : ∀ i, i < zs.length → w.cell? (x.add i) = some (.int .u8 (zs.getD i 0))) (hwz : ∀ n ∈ zs, (Lit.int .u8 n).wf = true) :
    ∃ l : List UInt8, l.length = len ∧ SB w (Lt w.heap.size) (some x) cap l := by
  refine ⟨(zs.take len).map fun n => UInt8.ofNat n.toNat, by simp; omega, by simp; omega, hm, fun hn => ?_⟩
  have hlen : 0 < len := by
    rcases Nat.eq_zero_or_pos len with h | h
    · subst h; simp at hn
    · exact h
  obtain ⟨b, off, rfl, hb⟩ := addr_plain (hcell 0 (by omega))
  refine ⟨b, off, rfl, hb, fun j v hv => ?_⟩
  simp only [List.map_map, List.getElem?_map, List.getElem?_take, Function.comp_apply] at hv
  split at hv
  · rename_i hj
    have hjz : j < zs.length := by omega
    rw [List.getElem?_eq_getElem hjz] at hv
    simp only [Option.map_some, Option.some.injEq] at hv
    subst hv
    have := hcell j hjz
    rw [Addr.add_lit] at this
    rw [this]
    show some (Value.int .u8 (zs.getD j 0)) = some (Value.int .u8 ((UInt8.ofNat (zs[j]).toNat).toNat : Int))
    rw [ofNat_wf (hwz _ (List.getElem_mem hjz))]
    simp [List.getElem?_eq_getElem hjz]
  · simp at hv

/-- Ints that came in. -/
theorem row_of_ints {w : World} {x : Addr} {len cap : Nat} {zs : List Int} (hl : len ≤ cap) (hz : zs.length = cap)
    (hcell : ∀ i, i < zs.length → w.cell? (x.add i) = some (.int .i64 (zs.getD i 0))) :
    ∃ l : List Int, l.length = len ∧ Row w (Lt w.heap.size) (some x) (l.map (Value.int .i64)) := by
  refine ⟨zs.take len, by simp; omega, fun hn => ?_⟩
  have hlen : 0 < len := by
    rcases Nat.eq_zero_or_pos len with h | h
    · subst h; simp at hn
    · exact h
  obtain ⟨b, off, rfl, hb⟩ := addr_plain (hcell 0 (by omega))
  refine ⟨b, off, rfl, hb, fun j v hv => ?_⟩
  simp only [List.getElem?_map, List.getElem?_take] at hv
  split at hv
  · rename_i hj
    have hjz : j < zs.length := by omega
    rw [List.getElem?_eq_getElem hjz] at hv
    simp only [Option.map_some, Option.some.injEq] at hv
    subst hv
    have := hcell j hjz
    rw [Addr.add_lit] at this
    rw [this]
    simp [List.getElem?_eq_getElem hjz]
  · simp at hv

section
variable {H : Type} {enc : TypeId × Value → H} {W : World} {base : Nat} {d : DataW H} {p : List MemPlace}
theorem cells5 : Try.prog.cellsOf 5 = 1 := by kernel_rfl
theorem cells3 : Try.prog.cellsOf 3 = 1 := by kernel_rfl
set_option maxRecDepth 100000 in
/-- An argument of type []byte. -/
theorem open_bytes {v : Value} (hv : Value.okWide Try.prog W .any base 28 v) (h : DataW.Trod enc Try.prog W 0 (fun _ => true) true 28 v d p) :
    ∃ (A : Option Addr) (c : Nat) (l : List UInt8), v = .slice A l.length c ∧ SB W (Lt W.heap.size) A c l := by
  obtain ⟨a0, len0, cap0, rfl⟩ := okWide_slice Try.underlying28 hv
  obtain ⟨fuel, hf⟩ := h
  rcases open_ints Try.underlying28 Try.underlying5 cells5 hf with ⟨hcs, _⟩ | ⟨x, l, c, zs, hcs, _, hl, hm, hz, _, hcell, hwz⟩
  · simp [Value.cells] at hcs
    obtain ⟨rfl, rfl, rfl⟩ := hcs
    exact ⟨none, 0, [], rfl, SB.nil _ _⟩
  · simp [Value.cells] at hcs
    obtain ⟨rfl, rfl, rfl⟩ := hcs
    obtain ⟨l, hll, hs⟩ := sb_of_ints hl hm (by simpa using hz) hcell hwz
    subst hll
    exact ⟨_, _, l, rfl, hs⟩
set_option maxRecDepth 100000 in
/-- An argument of type []int. -/
theorem open_intSlice {v : Value} (hv : Value.okWide Try.prog W .any base 24 v) (h : DataW.Trod enc Try.prog W 0 (fun _ => true) true 24 v d p) :
    ∃ (A : Option Addr) (c : Nat) (l : List Int), v = .slice A l.length c ∧ l.length ≤ c ∧ c ≤ maxLen ∧ Row W (Lt W.heap.size) A (l.map (Value.int .i64)) := by
  obtain ⟨a0, len0, cap0, rfl⟩ := okWide_slice Try.underlying24 hv
  obtain ⟨fuel, hf⟩ := h
  rcases open_ints Try.underlying24 Try.underlying3 cells3 hf with ⟨hcs, _⟩ | ⟨x, l, c, zs, hcs, _, hl, hm, hz, _, hcell, hwz⟩
  · simp [Value.cells] at hcs
    obtain ⟨rfl, rfl, rfl⟩ := hcs
    exact ⟨none, 0, [], rfl, Nat.le_refl _, Nat.zero_le _, Row.nil⟩
  · simp [Value.cells] at hcs
    obtain ⟨rfl, rfl, rfl⟩ := hcs
    obtain ⟨l, hll, hs⟩ := row_of_ints hl (by simpa using hz) hcell
    subst hll
    exact ⟨_, _, l, rfl, hl, hm, hs⟩
end
end Go.Proofs.Ytokeanadhihlfaa
