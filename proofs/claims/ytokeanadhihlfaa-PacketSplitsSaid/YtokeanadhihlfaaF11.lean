/-
  Contract: awake of the packet's laws returns true.
-/
import Derived.Test.YtokeanadhihlfaaF10
import Derived.Lib.SlBytesConst
namespace Go.Proofs.Ytokeanadhihlfaa
open Go.RowKit

/-- The law's answer. -/
def LawTrue (w : World) (e : Ending) (w' : World) : Prop := e = .returned (.bool true) ∧ Below w.heap.size w w'

def msg61 : List UInt8 := [48, 49, 50, 51, 52, 53, 54, 55, 56, 57, 48, 49, 50, 51, 52, 53, 54, 55, 56, 57, 48, 49, 50, 51, 52, 53, 54, 55, 56, 57, 48, 49, 50, 51, 52, 53, 54, 55, 56, 57, 48, 49, 50, 51, 52, 53, 54, 55, 56, 57, 48, 49, 50, 51, 52, 53, 54, 55, 56, 57, 48]
theorem Row.of_cells {w : World} {g : Nat} {t : TypeId} {cs : Array Value} {fr : Nat × Nat} (h : w.heap[g]? = some (.cells cs t fr)) : Row w (Lt w.heap.size) (some ⟨g, 0, none⟩) cs.toList := fun _ =>
  ⟨g, 0, rfl, (Array.getElem?_eq_some_iff.1 h).1, fun j v hv => by rw [Nat.zero_add, cell_of_row w g j cs t fr h]; simpa using hv⟩
theorem splitL_data (ch cmd : Int) (b : List UInt8) : ∀ p ∈ splitL ch cmd b, p.data.length ≤ 59 := by
  intro p hp
  simp only [splitL, splitTo, List.mem_cons, List.mem_map] at hp
  rcases hp with rfl | ⟨i, _, rfl⟩
  · simp; omega
  · simp [contP]; omega
theorem splitL_length (ch cmd : Int) (b : List UInt8) : (splitL ch cmd b).length = nconts b.length + 1 := splitTo_length ..

set_option maxRecDepth 100000 in
set_option maxHeartbeats 4000000 in
theorem awake_ok (w : World) : Calls Try.prog 21 #[] w (LawTrue w) := by
  have kc := fun (w : World) (C : Array Value) (n c : Nat) => Lib.run_convert_bytes_const (P := Try.prog) w 28 5 C n c Try.underlying28 Try.underlying5
  go_enter Try.func21, Try.ntmps21
  go_wp2_with fail
  clear kc
  generalize hW : World.alloc w _ = W
  have hB : Below w.heap.size w W := by rw [← hW]; exact (Below.refl _ _).alloc (Nat.le_refl _) _
  have hs : SB W (Lt W.heap.size) (some ⟨w.heap.size, 0, none⟩) 61 msg61 := by
    refine ⟨by decide, by unfold maxLen; omega, ?_⟩
    have := Row.of_cells (w := W) (g := w.heap.size) (by rw [← hW]; exact heap_alloc_new w _)
    exact this
  clear hW
  refine (split_in 7 1 _ _ msg61 _ hs (by omega) (by omega) (by decide)).mono ?_
  rintro e w1 ⟨A1, c1, rfl, hsp, hb1⟩
  have hs1 := hs.up hb1
  rw [show (splitL 7 1 msg61).length = 2 from rfl]
  go_wp2_with fail
  refine (join_ok A1 c1 (splitL 7 1 msg61) _ hsp (by decide) (fun p hp => by have := splitL_data _ _ _ p hp; omega)).mono ?_
  rw [show joinL (splitL 7 1 msg61) = (1, msg61, 2, 0) by decide +kernel]
  rintro e w2 ⟨A2, c2, rfl, hs2, hb2⟩
  have v1 := conv_str hs2
  have v2 := conv_str (hs1.up hb2)
  rw [show msg61.length = 61 from rfl] at v1 v2
  dsimp only
  rw [show msg61.length = 61 from rfl]
  generalize strB msg61 = s at v1 v2
  go_wp2_with (go_at_call 19; refine (count_ok _ _).mono ?_; rintro e w' ⟨rfl, rfl⟩)
  go_ret
  refine ⟨?_, below_go (below_go hB hB.size hb1) (by have := hB.size; have := hb1.size; omega) hb2⟩
  exact congrArg (fun b => Ending.returned (.bool b)) (show (countI 117 == 3) = true by decide)
end Go.Proofs.Ytokeanadhihlfaa
