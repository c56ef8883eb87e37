import Derived.Test.YteapmebmgaggcaaDoorCards
import Derived.Test.YteapmebmgaggcaaDoorTie
import Derived.WalkKit
import Derived.ProofKit
import Derived.OpenShut
import Derived.Deep.DeepHandedRow
import Derived.Lib.LaidTab
import Derived.Test.YteapmebmgaggcaaDoorWc
namespace Go.Proofs.YteapmebmgaggcaaDoor.PRow
open Go.ChangeShapes Go.WideShapes Go.ChangeAt Go.RowKit
set_option linter.unusedVariables false

theorem own : ownKnob Tryd.prog.godebug = none := by kernel_rfl
theorem laidOut : laidOutB Tryd.prog = true := by kernel_rfl
theorem gTab : Tryd.prog.globalNamed "ringroad/wire.needs" = some 0 := by kernel_rfl
theorem gTabType : (Tryd.prog.globals[0]?).map (·.type) = some 57 := by kernel_rfl
theorem cells57 : Tryd.prog.cellsOf 57 = 15 := by kernel_rfl
theorem cells3 : Tryd.prog.cellsOf 3 = 1 := by kernel_rfl
theorem table {W : World} (h : laidMetH Tryd.prog [("ringroad/wire.needs", Rows.laid_ringroad_wire_needs)] W) : Lib.TabIs Tryd.prog W "ringroad/wire.needs" .i64 needT :=
  Lib.tabIs_of_head (rest := []) gTab gTabType Tryd.underlying57 Tryd.underlying3 cells3 cells57 h
theorem needs_of {W : World} (h : laidMetH Tryd.prog [("ringroad/wire.needs", Rows.laid_ringroad_wire_needs)] W) : NeedsOk W := by
  have hc : ∀ i, i < 15 → W.cell? ⟨0, i, none⟩ = some (.int .i64 (needT.getD i 0)) := fun i hi => (table h).cell gTab i hi
  exact ⟨World.block_lt_of_cell? _ _ (hc 0 (by decide)), hc⟩
/-- A world for the witness: the settled one, the table (block 0) holding what its initialiser lays. -/
noncomputable def laidWorld (os : Os) : World :=
  { World.holding Tryd.prog os ⟨#[], #[], []⟩ with heap := (World.holding Tryd.prog os ⟨#[], #[], []⟩).heap.modify 0 fun
      | .cells _ t frozen => .cells #[.int .i64 (-1), .int .i64 15, .int .i64 1, .int .i64 1, .int .i64 1, .int .i64 9, .int .i64 0, .int .i64 1, .int .i64 9, .int .i64 1, .int .i64 3, .int .i64 3, .int .i64 9, .int .i64 8, .int .i64 0] t frozen
      | o => o }
end Go.Proofs.YteapmebmgaggcaaDoor.PRow
