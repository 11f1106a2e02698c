/-
  Facts of the program that opening the laws' arguments needs.
-/
import Derived.Test.YtokeanadhihlfaaRows
import Derived.Test.YtokeanadhihlfaaVOpen
import Derived.Test.YtokeanadhihlfaaProg
import Derived.KernelRfl
set_option linter.all false
namespace Go.Proofs.Ytokeanadhihlfaa
open Go.ChangeShapes Go.WideShapes Go.ChangeAt Go.RowKit

theorem law_own : ownKnob Try.prog.godebug = none := by kernel_rfl
theorem law_laidOut : laidOutB Try.prog = true := by kernel_rfl
theorem cells5 : Try.prog.cellsOf 5 = 1 := by kernel_rfl
theorem cells3 : Try.prog.cellsOf 3 = 1 := by kernel_rfl
theorem pkT : V.PkT Try.prog 38 := ⟨⟨_, _, _, _, _, _, Try.underlying38, ⟨rfl, rfl, rfl, rfl, rfl, rfl⟩, ⟨by kernel_rfl, by kernel_rfl, by kernel_rfl, by kernel_rfl, by kernel_rfl, by kernel_rfl⟩,
  Try.underlying27, Try.underlying4, Try.underlying3, Try.underlying3, Try.underlying3, 5, Try.underlying28, Try.underlying5, cells5⟩, by kernel_rfl⟩
end Go.Proofs.Ytokeanadhihlfaa
